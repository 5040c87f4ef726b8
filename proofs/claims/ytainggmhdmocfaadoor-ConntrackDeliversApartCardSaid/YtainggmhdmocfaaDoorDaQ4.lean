/- Parts of a proof, printed short. No condition. -/
import Derived.Test.YtainggmhdmocfaaDoorDaQ3
set_option maxRecDepth 100000
namespace Go.AM
open Go
abbrev TB:=List (Za × Zb)
theorem eqH (a b:Za):Zi a b=true ↔ a=b:=
 ⟨fun h=>by cases a; cases b; simpa [Zi] using h,fun h=>by subst h; simp [Zi]⟩
theorem eqHf {a b:Za}:Zi a b=false ↔ a ≠ b:=by
 rw [← Bool.not_eq_true,eqH]
theorem eqHr (a:Za):Zi a a=true:=(eqH a a).2 rfl
theorem eqHs (a b:Za):Zi a b=Zi b a:=by
 cases h:Zi b a with
 | true=>rw [(eqH b a).1 h,eqHr]
 | false=>rw [eqHf] at h ⊢; exact Ne.symm h
structure TaOk (L:TB):Prop where
 nd:(L.map (·.1)).Nodup
 real:∀ x∈L,x.2.Real=x.1
theorem TaOk.uniq {L:TB} (h:TaOk L) {x y:Za × Zb} (hx:x∈L) (hy:y∈L) (he:x.1=y.1):x=y:=by
 obtain⟨i,hi⟩:=List.mem_iff_getElem?.1 hx
 obtain⟨j,hj⟩:=List.mem_iff_getElem?.1 hy
 have hij:i=j:=by
  refine(List.getElem?_inj (by rw [List.length_map]; exact(List.getElem?_eq_some_iff.1 hi).1) h.nd).1 ?_
  simp only [List.getElem?_map,hi,hj,Option.map_some,he]
 subst hij
 rw [hi] at hj
 exact Option.some.inj hj
theorem TaOk.filter {L:TB} (h:TaOk L) (p:Za × Zb→Bool):TaOk (L.filter p):=
 ⟨List.Nodup.sublist (List.Sublist.map _ List.filter_sublist) h.nd,fun x hx=>h.real x (List.mem_filter.1 hx).1⟩
theorem TaOk.nil:TaOk []:=⟨by simp,by simp⟩
def live (now:Int) (L:TB):TB:=L.filter fun x=>decide (now<x.2.Expires)
def dead (now:Int) (L:TB):Nat:=L.countP fun x=>decide (x.2.Expires≤now)
theorem Zfr (now:Int):∀(l:TB) (M:TB) (c:Nat),c + l.length<4611686018427387904 →
  mfold (Zac now) l (M,(c:Int))=some (.inr (M.filter (fun x=>!(l.any fun y=>decide (y.2.Expires≤now) && Zi y.1 x.1)),((c + dead now l:Nat):Int)))
 | [],M,c,_=>by
  have e:M.filter (fun x=>!(([]:TB).any fun y=>decide (y.2.Expires≤now) && Zi y.1 x.1))=M:=List.filter_eq_self.2 fun _ _=>rfl
  rw [e]; rfl
 | y :: l,M,c,h=>by
  rw [List.length_cons] at h
  unfold mfold
  rw [Zac]
  by_cases he:y.2.Expires≤now
  ·rw [if_pos (by simpa using he)]
   simp only [Option.bind_some]
   rw [show IntKind.wrap .i64 ((c:Int) + 1)=((c + 1:Nat):Int) by rw [wi64 (by omega) (by omega)]; omega]
   rw [Zfr now l _ (c + 1) (by omega)]
   unfold mdel dead
   rw [List.filter_filter,List.countP_cons,if_pos (by simpa using he)]
   congr 3
   ·refine List.filter_congr fun x _=>?_
    simp only [List.any_cons,he,decide_true,Bool.true_and,Bool.not_or]
    rw [Bool.and_comm]
   ·omega
  ·rw [if_neg (by simpa using he)]
   simp only [Option.bind_some]
   rw [Zfr now l M c (by omega)]
   unfold dead
   rw [List.countP_cons,if_neg (by simpa using he)]
   congr 3
   refine List.filter_congr fun x _=>?_
   simp only [List.any_cons,he,decide_false,Bool.false_and,Bool.false_or]
theorem Zm2 {L:TB} (h:TaOk L) (hl:L.length<4611686018427387904) (most now:Int):Z7 most L now=some ((dead now L:Int),live now L):=by
 unfold Z7
 refine Zg0 fun l' hp=>?_
 have:=Zfr now l' L 0 (by rw [hp.length_eq]; omega)
 rw [show ((0:Nat):Int)=0 from rfl] at this
 rw [this]
 simp only [Option.bind_some,Nat.zero_add]
 congr 2
 ·unfold dead; rw [hp.countP_eq]
 ·refine List.filter_congr fun x hx=>?_
  rw [Bool.eq_iff_iff]
  simp only [Bool.not_eq_true',decide_eq_true_eq]
  rw [← Bool.not_eq_true,List.any_eq_true]
  constructor
  ·intro hn
   refine Classical.byContradiction fun hlt=>hn ⟨x,hp.mem_iff.2 hx,?_⟩
   simp only [eqHr,Bool.and_true,decide_eq_true_eq]; omega
  ·rintro hlt ⟨y,hy,hye⟩
   simp only [Bool.and_eq_true,decide_eq_true_eq,eqH] at hye
   have:=h.uniq (hp.mem_iff.1 hy) hx hye.2
   subst this
   omega
theorem Zmi {L:TB} {k:Za} {c:Zb} (h:mget Zi L k=some c):(k,c)∈L:=by
 unfold mget at h
 rw [Option.map_eq_some_iff] at h
 obtain⟨x,h1,rfl⟩:=h
 have h2:=List.find?_some h1
 rw [eqH] at h2
 subst h2
 exact List.mem_of_find?_eq_some h1
end Go.AM
set_option maxRecDepth 100000
namespace Go.AM
open Go
abbrev BoxR:=Arr5 Zh
def ofB (v:Arr5 Int):BoxR:=⟨⟨v.x0,v.x0⟩,⟨v.x1,v.x1⟩,⟨v.x2,v.x2⟩,⟨v.x3,v.x3⟩,⟨v.x4,v.x4⟩⟩
theorem rOf_eq {h:Za} (hh:Zo h):Zcc h=some (ofB (hv h)):=by
 unfold Zcc
 rw [Zhw hh]
 simp only [Option.bind_some]
 rw [Zjl (L:=Za6 (hv h)) (f:=fun s k=>Arr5.set s k ⟨(hv h).get k,(hv h).get k⟩) (fin:=id) (fun n s k h0 h1=>by
  rw [Za6]
  simp only [show k<5 from h1,decide_true,if_true,show 0≤k∧k<5 from ⟨h0,h1⟩,and_self,wnext h0 (by omega:k<1000000)]) (fun n s=>by rw [Za6]; rfl)]
 rfl
def vH (h:Zl):Bool:=vB h.Match && decide (h.Ports.Lo≤h.Ports.Hi) && decide (h.Ports.Hi≤65535)
theorem Zeo (h:Zl):Zap h=some (vH h):=by
 unfold Zap vH
 rw [Zkk]
 simp only [Option.bind_some]
 rw [show Zet 3=some 65535 from rfl]
 cases vB h.Match <;> cases decide (h.Ports.Lo≤h.Ports.Hi) <;> simp
theorem Zjr (h:Zl):Zba h=some (vH h):=by
 unfold Zba vH
 rw [Zjj]
 rfl
def tgtB (h:Zl) (b:BoxR):BoxR:=⟨⟨h.Addr,h.Addr⟩,b.x1,b.x2,h.Ports,b.x4⟩
def gH (h:Za) (i:Nat) (m:Zl):Option Int:=if (vH m && cB m.Match h)=true then some (i:Int) else none
def mH (l:List Zl) (h:Za):Int:=orN (findI (gH h) 0 l)
theorem Zgu {h:Za} (hh:Zo h) {l:List Zl} (hl:l.length≤1000000000000):Zav l h=some (mH l h):=by
 have h1:∀ m:Zl,Zaz m h=some (vH m && cB m.Match h):=fun m=>by
  unfold Zaz
  rw [Zeo,Ze2 hh]
  cases vH m <;> rfl
 unfold Zav Zz mH
 rw [Zd1 (L:=Zq l h) l (gH h) hl (fun n i hi=>by
  rw [Zq]
  simp only [show ((i:Int)<(l.length:Int)) from by omega,decide_true,if_true,Zec hi,Option.bind_some,h1,wsucc (by omega:i<1000000000001)]
  unfold gH
  cases (vH l[i] && cB l[i].Match h) <;> rfl) (fun n=>by rw [Zq]; simp)]
 cases findI (gH h) 0 l <;> rfl
theorem Zkl {h:Za}:∀(l:List Zl) (i:Nat) (r:Int),findI (gH h) i l=some r→∃ j m,l[j]? = some m∧r=((i + j:Nat):Int)∧vH m=true∧cB m.Match h=true
 | [],_,_,e=>by simp [findI] at e
 | m :: l,i,r,e=>by
  unfold findI at e
  unfold gH at e
  by_cases hm:(vH m && cB m.Match h)=true
  ·rw [if_pos hm] at e
   simp only [Option.some.injEq] at e
   simp only [Bool.and_eq_true] at hm
   exact⟨0,m,rfl,by simpa using e.symm,hm.1,hm.2⟩
  ·rw [if_neg hm] at e
   obtain⟨j,m',h1,h2,h3⟩:=Zkl l (i + 1) r e
   exact⟨j + 1,m',h1,by rw [h2]; congr 1; omega,h3⟩
theorem Zlj {l:List Zl} {h:Za} (hp:¬ mH l h<0):∃(j:Nat) (m:Zl),l[j]? = some m∧mH l h=(j:Int)∧vH m=true∧cB m.Match h=true:=by
 unfold mH at hp ⊢
 cases hf:findI (gH h) 0 l with
 | none=>rw [hf] at hp; exact absurd (by decide) hp
 | some r=>
  obtain⟨j,m,h1,h2,h3,h4⟩:=Zkl l 0 r hf
  exact⟨j,m,h1,by rw [h2]; simp [orN],h3,h4⟩
theorem Of_box {h:Za} (hh:Zo h):Zdo h=some (ofB (hv h)):=by
 unfold Zdo
 rw [Zjm hh]
 simp only [Option.bind_some]
 rw [Zjl (L:=Zb5 (hv h)) (f:=fun s k=>Arr5.set s k ⟨(hv h).get k,(hv h).get k⟩) (fin:=id) (fun n s k h0 h1=>by
  rw [Zb5]
  simp only [show k<5 from h1,decide_true,if_true,show 0≤k∧k<5 from ⟨h0,h1⟩,and_self,wnext h0 (by omega:k<1000000)]) (fun n s=>by rw [Zb5]; rfl)]
 rfl
def hdB (m:Zl) (h:Za):BoxR:=if (vH m && cB m.Match h)=true then tgtB m (ofB (hv h)) else ofB (hv h)
theorem Zmj {h:Za} (hh:Zo h) (m:Zl):Zbx m h=some (hdB m h):=by
 unfold Zbx hdB
 rw [Of_box hh,Zeo,Ze2 hh]
 cases vH m <;> cases cB m.Match h <;> rfl
theorem Zlw {h:Za} (hh:Zo h) (m:Zl):Zby m h=some (hdB m h):=by
 unfold Zby hdB
 rw [rOf_eq hh,Zjr,Zgt hh]
 cases vH m <;> cases cB m.Match h <;> rfl
def gVH (_:Nat) (m:Zl):Option Bool:=if vH m=true then none else some false
def vHs (l:List Zl):Bool:=match findI gVH 0 l with
 | none=>decide ((l.length:Int)≤256)
 | some r=>r
theorem Zjs {l:List Zl} (hl:l.length≤1000000000000):Za4 l=some (vHs l):=by
 unfold Za4 vHs
 rw [Zd1 (L:=Zaa l) l gVH hl (fun n i hi=>by
  rw [Zaa]
  simp only [show ((i:Int)<(l.length:Int)) from by omega,decide_true,if_true,Zec hi,Option.bind_some,Zeo,wsucc (by omega:i<1000000000001)]
  unfold gVH
  cases vH l[i] <;> rfl) (fun n=>by rw [Zaa]; simp)]
 cases findI gVH 0 l with
 | none=>rfl
 | some r=>rfl
end Go.AM
set_option maxRecDepth 100000
namespace Go.AM
open Go
theorem Zep {L:TB} {a:Za} {v:Zb} {x:Za × Zb}:x∈mput Zi L a v→x=(a,v)∨(x∈L∧x.1 ≠ a):=by
 unfold mput
 split
 ·intro hx
  obtain⟨y,hy,rfl⟩:=List.mem_map.1 hx
  by_cases hya:Zi a y.1=true
  ·rw [if_pos hya]; exact .inl rfl
  ·rw [if_neg hya]
   exact .inr ⟨hy,fun h=>hya ((eqH _ _).2 h.symm)⟩
 ·rename_i hn
  intro hx
  rcases List.mem_append.1 hx with hx | hx
  ·refine .inr ⟨hx,fun h=>hn ?_⟩
   rw [List.any_eq_true]
   exact⟨x,hx,(eqH _ _).2 h.symm⟩
  ·exact .inl (List.mem_singleton.1 hx)
theorem Zmk {L:TB} {a:Za} {v:Zb}:(a,v)∈mput Zi L a v:=by
 unfold mput
 split
 ·rename_i h
  obtain⟨x,hx,he⟩:=List.any_eq_true.1 h
  exact List.mem_map.2 ⟨x,hx,by rw [if_pos he]⟩
 ·simp
theorem TaOk.put {L:TB} (h:TaOk L) {a:Za} {v:Zb} (hv:v.Real=a):TaOk (mput Zi L a v):=by
 refine⟨?_,fun x hx=>?_⟩
 ·unfold mput
  split
  ·rw [List.map_map]
   have:(L.map ((fun x=>x.1) ∘ fun x=>if Zi a x.1=true then (a,v) else x))=L.map (·.1):=List.map_congr_left fun x _=>by
    simp only [Function.comp]
    split
    ·rename_i he; exact(eqH _ _).1 he
    ·rfl
   rw [this]; exact h.nd
  ·rename_i hn
   rw [List.map_append,List.nodup_append]
   refine⟨h.nd,by simp,fun y hy z hz=>?_⟩
   simp only [List.map_cons,List.map_nil,List.mem_singleton] at hz
   subst hz
   intro hyz
   subst hyz
   obtain⟨x,hx,rfl⟩:=List.mem_map.1 hy
   exact hn (List.any_eq_true.2 ⟨x,hx,eqHr _⟩)
 ·rcases Zep hx with rfl | ⟨hx,_⟩
  ·exact hv
  ·exact h.real x hx
theorem Zm3 {X:Type} (p:X→Bool) (L:List X):(L.find? p).isSome=L.any p:=by
 cases hf:L.find? p with
 | none=>
  rw [List.find?_eq_none] at hf
  symm
  show L.any p=false
  rw [← Bool.not_eq_true,List.any_eq_true]
  rintro⟨x,hx,h⟩
  exact hf x hx h
 | some x=>
  symm
  exact List.any_eq_true.2 ⟨x,List.mem_of_find?_eq_some hf,List.find?_some hf⟩
theorem Zkm {L:TB} {a:Za} {v:Zb}:(mput Zi L a v).length=if (mget Zi L a).isSome=true then L.length else L.length + 1:=by
 have e:(mget Zi L a).isSome=L.any (fun x=>Zi a x.1):=by
  unfold mget
  rw [Option.isSome_map,Zm3]
 unfold mput
 rw [e]
 split
 ·rw [List.length_map]
 ·rw [List.length_append]; rfl
theorem Zml (M:List (Za × Bool)) (a k:Za) (v:Bool):mget Zi (mput Zi M a v) k=if Zi a k=true then some v else mget Zi M k:=by
 unfold mget mput
 split
 ·rename_i h
  rw [List.find?_map,Option.map_map]
  by_cases hak:Zi a k=true
  ·rw [if_pos hak]
   have:=(eqH _ _).1 hak
   subst this
   have hcomp:((fun x:Za × Bool=>Zi a x.1) ∘ fun x=>if Zi a x.1=true then (a,v) else x)=fun x=>Zi a x.1:=by
    funext x
    simp only [Function.comp]
    split
    ·rename_i he; rw [eqHr,he]
    ·rfl
   rw [hcomp]
   cases hf:M.find? (fun x=>Zi a x.1) with
   | none=>
    obtain⟨x,hx,he⟩:=List.any_eq_true.1 h
    rw [List.find?_eq_none] at hf
    exact absurd he (hf x hx)
   | some x=>
    have:=List.find?_some hf
    simp only [Option.map_some,Function.comp,if_pos this]
  ·rw [if_neg hak]
   have hcomp:((fun x:Za × Bool=>Zi k x.1) ∘ fun x=>if Zi a x.1=true then (a,v) else x)=fun x=>Zi k x.1:=by
    funext x
    simp only [Function.comp]
    split
    ·rename_i he
     have:=(eqH _ _).1 he
     rw [← this]
    ·rfl
   rw [hcomp]
   cases hf:M.find? (fun x=>Zi k x.1) with
   | none=>rfl
   | some x=>
    have h1:=List.find?_some hf
    have:¬ Zi a x.1=true:=fun he=>hak (by rw [eqH] at he h1 ⊢; rw [he,h1])
    simp only [Option.map_some,Function.comp,if_neg this]
 ·rename_i h
  rw [List.find?_append]
  by_cases hak:Zi a k=true
  ·rw [if_pos hak]
   have:=(eqH _ _).1 hak
   subst this
   have:M.find? (fun x=>Zi a x.1)=none:=by
    rw [List.find?_eq_none]
    exact fun x hx he=>h (List.any_eq_true.2 ⟨x,hx,he⟩)
   rw [this]
   simp [eqHr]
  ·rw [if_neg hak]
   have:Zi k a=false:=by
    rw [eqHs]
    simpa using hak
   cases hf:M.find? (fun x=>Zi k x.1) with
   | none=>simp [this]
   | some x=>rfl
def lf (p s:Int):Int:=if p=6 then (if s=2 then 600 else if s=3 then 10 else 30) else 60
theorem lf_rng (p s:Int):10≤lf p s∧lf p s≤600:=by
 unfold lf
 repeat' split
 all_goals omega
theorem Zk0 (c:Zb):Za5 c=some (lf c.Real.Proto c.State):=by
 unfold Za5 lf
 by_cases h1:c.Real.Proto=6
 ·rw [if_neg (by simp [h1]),if_pos h1]
  by_cases h2:c.State=2
  ·rw [if_pos (by simp [h2]),if_pos h2]
  ·rw [if_neg (by simpa using h2),if_neg h2]
   by_cases h3:c.State=3
   ·rw [if_pos (by simp [h3]),if_pos h3]
   ·rw [if_neg (by simpa using h3),if_neg h3]
 ·rw [if_pos (by simpa using h1),if_neg h1]
def rfr (c:Zb) (now:Int):Zb:={ c with Expires:=if now≤9223372036854775807 - lf c.Real.Proto c.State then now + lf c.Real.Proto c.State else 9223372036854775807 }
theorem Znh (most:Int) (L:TB) (c:Zb) {now:Int} (hn:Zda now):Za0 most L c now=some (mput Zi L c.Real (rfr c now)):=by
 unfold Za0 rfr
 unfold Zda at hn
 have:=lf_rng c.Real.Proto c.State
 rw [Zk0]
 simp only [Option.bind_some]
 rw [wi64 (by omega) (by omega)]
 by_cases h:now≤9223372036854775807 - lf c.Real.Proto c.State
 ·rw [if_pos (by simpa using h),if_pos h,wi64 (by omega) (by omega)]; rfl
 ·rw [if_neg (by simpa using h),if_neg h]; rfl
def allowB (real:Za) (hid:Bool) (v:Int):Bool:=!hid || (real.Proto != 1) || (v != 8)
theorem Ziq (real:Za) (hid:Bool) (v:Int):Za9 real hid v=some (allowB real hid v):=rfl
def usedB (L:TB) (real h:Za):Bool:=L.any fun y=>(!(Zi y.1 real) && (y.2.To != -1)) && Zi y.2.Delivered h
theorem Zgv (c:Zb):∀(l:TB) (M:List (Za × Bool)),∃ M',mfold (Z4 c) l M=some (.inr M')∧∀ h,(mget Zi M' h).getD false=(usedB l c.Real h || (mget Zi M h).getD false)
 | [],M=>⟨M,rfl,fun h=>by simp [usedB]⟩
 | y :: l,M=>by
  unfold mfold
  rw [Z4]
  simp only [Option.bind_some]
  by_cases hc:(!(Zi y.1 c.Real) && (y.2.To != -1))=true
  ·rw [if_pos hc]
   simp only [Option.bind_some]
   obtain⟨M',h1,h2⟩:=Zgv c l (mput Zi M y.2.Delivered true)
   refine⟨M',h1,fun h=>?_⟩
   rw [h2,Zml]
   unfold usedB
   rw [List.any_cons,hc,Bool.true_and]
   cases Zi y.2.Delivered h <;> simp
  ·rw [if_neg hc]
   simp only [Option.bind_some]
   obtain⟨M',h1,h2⟩:=Zgv c l M
   refine⟨M',h1,fun h=>?_⟩
   rw [h2]
   unfold usedB
   rw [List.any_cons,Bool.eq_false_iff.2 hc,Bool.false_and,Bool.false_or]
def candB (hides:List Zl) (real:Za):BoxR:=if mH hides real<0 then ofB (hv real) else
 match hides[(mH hides real).toNat]? with
 | some m=>if real.Proto=6∨real.Proto=17∨real.Proto=1 then hdB m real else { hdB m real with x3:=⟨0,0⟩ }
 | none=>ofB (hv real)
theorem Zjt {hides:List Zl} {real:Za} (hh:Zo real) (hl:hides.length≤1000000000000):Zaw hides real=some (candB hides real):=by
 unfold Zaw candB
 rw [Zgu hh hl]
 simp only [Option.bind_some]
 by_cases hn:mH hides real<0
 ·rw [if_pos (by simpa using hn),if_pos hn,Of_box hh]; rfl
 ·rw [if_neg (by simpa using hn),if_neg hn]
  obtain⟨j,m,h1,h2,_,_⟩:=Zlj hn
  rw [h2,Int.toNat_natCast,h1]
  have hj:=(List.getElem?_eq_some_iff.1 h1).1
  rw [Zec hj]
  have e:hides[j]=m:=(List.getElem?_eq_some_iff.1 h1).2
  simp only [Option.bind_some,e,Zmj hh]
  by_cases p6:real.Proto=6
  ·simp [p6]
  ·by_cases p17:real.Proto=17
   ·simp [p17]
   ·by_cases p1:real.Proto=1
    ·simp [p1]
    ·simp [p6,p17,p1]
def hdrB (real:Za) (x:BoxR) (v:Int):Za:={ real with Src:=x.x0.Lo,SrcPort:=v }
def srch (p:Int→Bool):Nat→Int→Option Int
 | 0,_=>none
 | n + 1,v=>if p v=true then some v else srch p n (v + 1)
theorem Zjn {p:Int→Bool}:∀ {n:Nat} {v r:Int},srch p n v=some r→p r=true∧v≤r∧r<v + n
 | 0,_,_,h=>by cases h
 | n + 1,v,r,h=>by
  unfold srch at h
  split at h
  ·simp only [Option.some.injEq] at h; subst h
   rename_i hp
   exact⟨hp,Int.le_refl _,by omega⟩
  ·obtain⟨h1,h2,h3⟩:=Zjn h
   exact⟨h1,by omega,by omega⟩
theorem wu16' {x:Int} (h0:0≤x) (h1:x<65536):IntKind.wrap .u16 x=x:=by
 simp only [IntKind.wrap,IntKind.bits,IntKind.signed]
 simp
 omega
theorem Zgw (c:Zb) (r1:Int) (x:BoxR) (M:List (Za × Bool)) (hx:x.x3.Hi≤65535):∀(n m:Nat) (b:Za) (v:Int),0≤v→(x.x3.Hi + 1 - v).toNat=n→n<m→(∃ s,b={ c.Real with Src:=x.x0.Lo,SrcPort:=s }) →
  ∃ o,Z0 c r1 x M m b v=some o∧(match srch (fun v=>!((mget Zi M (hdrB c.Real x v)).getD false) && allowB c.Real (decide (r1 ≥ 0)) v) n v with
   | none=>∃ h,o=.inl h
   | some u=>o=.inr (hdrB c.Real x u,true))
 | 0,m,b,v,h0,hn,hm,hb=>by
  obtain⟨m,rfl⟩:∃ k,m=k + 1:=⟨m - 1,by omega⟩
  rw [Z0,if_neg (by simp; omega)]
  exact⟨_,rfl,b,rfl⟩
 | n + 1,m,b,v,h0,hn,hm,⟨s,hb⟩=>by
  obtain⟨m,rfl⟩:∃ k,m=k + 1:=⟨m - 1,by omega⟩
  rw [Z0,if_pos (by simp; omega)]
  rw [wu16' h0 (by omega),wu32 (x:=v + 1) (by omega) (by omega)]
  have e:({ b with SrcPort:=v }:Za)=hdrB c.Real x v:=by rw [hb]; rfl
  rw [e]
  simp only [Option.bind_some,Ziq]
  unfold srch
  by_cases hu:(mget Zi M (hdrB c.Real x v)).getD false=true
  ·rw [hu]
   simp only [Bool.not_true,Bool.false_eq_true,if_false,Option.bind_some,Bool.false_and]
   exact Zgw c r1 x M hx n m _ (v + 1) (by omega) (by omega) (by omega) ⟨v,rfl⟩
  ·have hu:=Bool.eq_false_iff.2 hu
   rw [hu]
   simp only [Bool.not_false,if_true,Option.bind_some,Bool.true_and]
   by_cases ha:allowB c.Real (decide (r1 ≥ 0)) v=true
   ·rw [if_pos ha,if_pos ha]
    exact⟨_,rfl,rfl⟩
   ·rw [if_neg ha,if_neg ha]
    exact Zgw c r1 x M hx n m _ (v + 1) (by omega) (by omega) (by omega) ⟨v,rfl⟩
def zH:Za:=⟨0,0,0,0,0⟩
def dlv (L:TB) (c:Zb) (edge:Int) (hides:List Zl):Za × Bool:=
 if (c.To == edge && cB (candB hides c.Real) c.Delivered && allowB c.Real (decide (mH hides c.Real ≥ 0)) c.Delivered.SrcPort)=true then (c.Delivered,true) else
 match srch (fun v=>!(usedB L c.Real (hdrB c.Real (candB hides c.Real) v)) && allowB c.Real (decide (mH hides c.Real ≥ 0)) v) ((candB hides c.Real).x3.Hi + 1 - (candB hides c.Real).x3.Lo).toNat (candB hides c.Real).x3.Lo with
 | none=>(zH,false)
 | some u=>(hdrB c.Real (candB hides c.Real) u,true)
theorem Zlx (most:Int) (L:TB) (c:Zb) (edge:Int) (hides:List Zl) (hr:Zo c.Real) (hd:Zo c.Delivered) (hl:hides.length≤1000000000000) (h0:0≤(candB hides c.Real).x3.Lo) (h1:(candB hides c.Real).x3.Hi≤65535) :
  Zaq most L c edge hides=some (dlv L c edge hides):=by
 unfold Zaq dlv
 have hdp:IntKind.wrap .u32 c.Delivered.SrcPort=c.Delivered.SrcPort:=by
  obtain⟨_,_,_,h,_⟩:=hd
  unfold Zbf at h
  exact wu32 (by omega) (by omega)
 rw [Zgu hr hl,Zjt hr hl]
 simp only [Option.bind_some,Ze2 hd,Ziq,hdp]
 have tail:allp L (fun l43=>(mfold (Z4 c) l43 ([]:(List (Za × Bool)))).bind fun(o41:Empty ⊕ (List (Za × Bool)))=>match o41 with
  | .inl r45=>(by cases r45)
  | .inr v34=>
    (Z0 c (mH hides c.Real) (candB hides c.Real) v34 fuel ({ c.Real with Src:=(candB hides c.Real).x0.Lo }:Za) (candB hides c.Real).x3.Lo).bind fun(o75:(Za ⊕ (Za × Bool)))=>
    match o75 with
    | .inl _=>some ((Za.mk (0:Int) (0:Int) (0:Int) (0:Int) (0:Int)),false)
    | .inr r88=>some r88)=some (match srch (fun v=>!(usedB L c.Real (hdrB c.Real (candB hides c.Real) v)) && allowB c.Real (decide (mH hides c.Real ≥ 0)) v) ((candB hides c.Real).x3.Hi + 1 - (candB hides c.Real).x3.Lo).toNat (candB hides c.Real).x3.Lo with
   | none=>(zH,false)
   | some u=>(hdrB c.Real (candB hides c.Real) u,true)):=by
  refine Zg0 fun l' hp=>?_
  obtain⟨M',g1,g2⟩:=Zgv c l' []
  rw [g1]
  simp only [Option.bind_some]
  obtain⟨o,o1,o2⟩:=Zgw c (mH hides c.Real) (candB hides c.Real) M' h1 _ fuel { c.Real with Src:=(candB hides c.Real).x0.Lo } (candB hides c.Real).x3.Lo h0 rfl (by unfold fuel; omega) ⟨c.Real.SrcPort,rfl⟩
  rw [o1]
  simp only [Option.bind_some]
  have e:(fun v=>!((mget Zi M' (hdrB c.Real (candB hides c.Real) v)).getD false) && allowB c.Real (decide (mH hides c.Real ≥ 0)) v)=fun v=>!(usedB L c.Real (hdrB c.Real (candB hides c.Real) v)) && allowB c.Real (decide (mH hides c.Real ≥ 0)) v:=by
   funext v
   rw [g2]
   have:(mget Zi ([]:List (Za × Bool)) (hdrB c.Real (candB hides c.Real) v)).getD false=false:=rfl
   rw [this,Bool.or_false]
   unfold usedB
   rw [hp.any_eq]
  rw [e] at o2
  generalize srch (fun v=>!(usedB L c.Real (hdrB c.Real (candB hides c.Real) v)) && allowB c.Real (decide (mH hides c.Real ≥ 0)) v) ((candB hides c.Real).x3.Hi + 1 - (candB hides c.Real).x3.Lo).toNat (candB hides c.Real).x3.Lo=w at o2 ⊢
  cases w with
  | none=>obtain⟨h,rfl⟩:=o2; rfl
  | some u=>simp only at o2; subst o2; rfl
 by_cases b1:(c.To == edge)=true
 ·rw [b1]
  simp only [if_true,Option.bind_some,Bool.true_and]
  by_cases b2:cB (candB hides c.Real) c.Delivered=true
  ·rw [b2]
   simp only [if_true,Option.bind_some,Bool.true_and]
   by_cases b3:allowB c.Real (decide (mH hides c.Real ≥ 0)) c.Delivered.SrcPort=true
   ·rw [if_pos b3,if_pos b3]
   ·rw [if_neg b3,if_neg b3]; exact tail
  ·have b2:=Bool.eq_false_iff.2 b2
   rw [b2]
   simp only [Bool.false_eq_true,if_false,Option.bind_some,Bool.false_and]
   exact tail
 ·have b1:=Bool.eq_false_iff.2 b1
  rw [b1]
  simp only [Bool.false_eq_true,if_false,Option.bind_some,Bool.false_and]
  exact tail
end Go.AM
set_option maxRecDepth 100000
namespace Go.AM
open Go
structure CoK (c:Zb):Prop where
 real:Zo c.Real
 del:Zo c.Delivered
 fr:c.From=-1∨0≤c.From
 to:c.To=-1∨0≤c.To
 st:c.State=1∨c.State=2∨c.State=3
structure Inv (L:TB):Prop where
 ta:TaOk L
 el:∀ x∈L,CoK x.2
 un:∀ x∈L,∀ y∈L,x.2.To ≠ -1→y.2.To ≠ -1→x.2.Delivered=y.2.Delivered→x=y
 len:L.length≤64
theorem Inv.nil:Inv []:=⟨TaOk.nil,by simp,by simp,by simp⟩
theorem Inv.filter {L:TB} (h:Inv L) (p:Za × Zb→Bool):Inv (L.filter p):=
 ⟨h.ta.filter p,fun x hx=>h.el x (List.mem_filter.1 hx).1,fun x hx y hy=>h.un x (List.mem_filter.1 hx).1 y (List.mem_filter.1 hy).1,Nat.le_trans (List.length_filter_le _ _) h.len⟩
theorem Inv.live {L:TB} (h:Inv L) (now:Int):Inv (live now L):=h.filter _
theorem Inv.sweep {L:TB} (h:Inv L) (most now:Int):Z7 most L now=some ((dead now L:Int),AM.live now L):=Zm2 h.ta (by have:=h.len; omega) most now
theorem Inv.put {M:TB} (h:Inv M) {k:Za} {c:Zb} (hc:CoK c) (hr:c.Real=k) (hl:(mget Zi M k).isSome=true∨M.length<64) (hu:c.To ≠ -1→∀ y∈M,y.1 ≠ k→y.2.To ≠ -1→y.2.Delivered ≠ c.Delivered):Inv (mput Zi M k c):=by
 refine⟨h.ta.put hr,fun x hx=>?_,fun x hx y hy tx ty e=>?_,?_⟩
 ·rcases Zep hx with rfl | ⟨hx,_⟩
  ·exact hc
  ·exact h.el x hx
 ·rcases Zep hx with rfl | ⟨hx,nx⟩ <;> rcases Zep hy with rfl | ⟨hy,ny⟩
  ·rfl
  ·exact absurd e.symm (hu tx y hy ny ty)
  ·exact absurd e (hu ty x hx nx tx)
  ·exact h.un x hx y hy tx ty e
 ·rw [Zkm]
  have:=h.len
  split
  ·exact this
  ·rename_i hn
   rcases hl with hl | hl
   ·exact absurd hl hn
   ·omega
theorem CoK.rfr {c:Zb} (h:CoK c) (now:Int):CoK (rfr c now):=⟨h.real,h.del,h.fr,h.to,h.st⟩
def zC:Zb:=⟨Zk,Zk,Zk,0,0,false,ByteArray.empty,0,0⟩
def newC (k:Za):Zb:=⟨k,Zk,Zk,-1,-1,false,ByteArray.empty,1,0⟩
theorem okzH:Zo Zk:=by
 unfold Zo Zb1 ok_u8 Zbf Zk
 decide
theorem CoK.new {k:Za} (h:Zo k):CoK (newC k):=⟨h,okzH,.inl rfl,.inl rfl,.inl rfl⟩
def entP (sel:Zb→Int) (most:Int) (M:TB) (real:Za) (opens:Bool):Zb × Int:=
 match mget Zi M real with
 | some c=>if (!opens && (sel c == -1))=true then (zC,16) else (c,0)
 | none=>if opens=false then (zC,16) else if (M.length:Int) ≥ most then (zC,9) else (newC real,0)
theorem Zmm (most:Int) (M:TB) (real:Za) (opens:Bool):Z1 most M real opens=some (entP (·.To) most M real opens):=by
 unfold Z1 Zay entP
 cases hg:mget Zi M real with
 | none=>
  cases opens
  ·rfl
  ·simp only [Option.bind_some,Bool.not_true,Bool.false_eq_true,if_false,Option.isSome_none]
   by_cases h:(M.length:Int) ≥ most
   ·simp only [h,decide_true,if_true]; rfl
   ·simp only [h,decide_false,Bool.false_eq_true,if_false]; rfl
 | some c=>
  simp only [Option.bind_some,Option.isSome_some,Option.getD_some,Bool.not_true,Bool.false_eq_true,if_false,if_true]
  cases opens
  ·cases ht:(c.To == -1) with
   | true=>
    have:(c.To != -1)=false:=by rw [bne,ht]; rfl
    simp only [this,Bool.not_false,Bool.not_true,if_true,Option.bind_some,Bool.and_self]; rfl
   | false=>
    have:(c.To != -1)=true:=by rw [bne,ht]; rfl
    simp only [this,Bool.not_false,Bool.not_true,if_true,Option.bind_some,Bool.and_false,Bool.false_eq_true,if_false]
  ·simp only [Bool.not_true,Bool.false_eq_true,if_false,Option.bind_some,Bool.false_and]
theorem Zi1 {sel:Zb→Int} {most:Int} {M:TB} (hM:Inv M) (hm:most≤64) {real:Za} (hr:Zo real) {opens:Bool} (h:(entP sel most M real opens).2=0) :
  CoK (entP sel most M real opens).1∧(entP sel most M real opens).1.Real=real∧(((real,(entP sel most M real opens).1)∈M∧(mget Zi M real).isSome=true)∨((entP sel most M real opens).1=newC real∧M.length<64)):=by
 unfold entP at h ⊢
 cases hg:mget Zi M real with
 | none=>
  rw [hg] at h
  simp only at h ⊢
  by_cases h1:opens=false
  ·rw [if_pos h1] at h; cases h
  ·rw [if_neg h1] at h ⊢
   by_cases h2:(M.length:Int) ≥ most
   ·rw [if_pos h2] at h; cases h
   ·rw [if_neg h2]
    exact⟨CoK.new hr,rfl,.inr ⟨rfl,by omega⟩⟩
 | some c=>
  rw [hg] at h
  simp only at h ⊢
  have hmem:=Zmi hg
  by_cases h1:(!opens && (sel c == -1))=true
  ·rw [if_pos h1] at h; cases h
  ·rw [if_neg h1]
   exact⟨hM.el _ hmem,hM.ta.real _ hmem,.inl ⟨hmem,by simp⟩⟩
theorem Zjo {hides:List Zl} (ho:∀ m∈hides,Zcm m) {real:Za} (hr:Zo real):0≤(candB hides real).x3.Lo∧(candB hides real).x3.Hi≤65535∧Zb1 (candB hides real).x0.Lo:=by
 obtain⟨r1,_,_,r4,_⟩:=hr
 unfold Zbf at r4
 have base:0≤(ofB (hv real)).x3.Lo∧(ofB (hv real)).x3.Hi≤65535∧Zb1 (ofB (hv real)).x0.Lo:=⟨by show 0≤real.SrcPort; omega,by show real.SrcPort≤65535; omega,r1⟩
 unfold candB
 by_cases hn:mH hides real<0
 ·rw [if_pos hn]; exact base
 ·rw [if_neg hn]
  obtain⟨j,m,h1,h2,h3,h4⟩:=Zlj hn
  rw [h2,Int.toNat_natCast,h1]
  simp only
  obtain⟨_,a2,⟨a3,a4,_⟩,_⟩:=ho m (List.mem_of_getElem? h1)
  have hv':=h3
  unfold vH at hv'
  simp only [Bool.and_eq_true,decide_eq_true_eq] at hv'
  have e:hdB m real=tgtB m (ofB (hv real)):=by unfold hdB; rw [if_pos (by rw [h3,h4]; rfl)]
  rw [e]
  unfold Zb1 at a3
  split
  ·exact⟨a3.1,hv'.2,a2⟩
  ·exact⟨Int.le_refl 0,(by decide:(0:Int)≤65535),a2⟩
theorem Zlk {hides:List Zl} (ho:∀ m∈hides,Zcm m) {real:Za} (hr:Zo real) {v:Int} (h0:(candB hides real).x3.Lo≤v) (h1:v≤(candB hides real).x3.Hi):Zo (hdrB real (candB hides real) v):=by
 obtain⟨b1,b2,b3⟩:=Zjo ho hr
 obtain⟨_,r2,r3,_,r5,r6⟩:=hr
 exact⟨b3,r2,r3,by unfold Zbf; show 0≤v∧v<65536; omega,r5,r6⟩
def egr (most:Int) (L:TB) (edge:Int) (real:Za) (cls:ByteArray) (hides:List Zl) (opens:Bool) (now:Int):Za × Int × TB:=
 if (decide (edge<0) || !(vHs hides))=true then (zH,1,live now L) else
 if (entP (·.To) most (live now L) real opens).2 ≠ 0 then (zH,(entP (·.To) most (live now L) real opens).2,live now L) else
 if (dlv (live now L) (entP (·.To) most (live now L) real opens).1 edge hides).2=false then (zH,9,live now L) else
 ((dlv (live now L) (entP (·.To) most (live now L) real opens).1 edge hides).1,0,mput Zi (live now L) (entP (·.To) most (live now L) real opens).1.Real
  (rfr { (entP (·.To) most (live now L) real opens).1 with To:=edge,Delivered:=(dlv (live now L) (entP (·.To) most (live now L) real opens).1 edge hides).1,Class:=cls } now))
theorem Zmn {L:TB} (hL:Inv L) {most:Int} (hm:most≤64) (edge:Int) {real:Za} (hr:Zo real) (cls:ByteArray) {hides:List Zl} (ho:∀ m∈hides,Zcm m) (hl:hides.length≤1000000000000) (opens:Bool) {now:Int} (hn:Zda now) :
  Zar most L edge real cls hides opens now=some (egr most L edge real cls hides opens now):=by
 unfold Zar egr
 rw [hL.sweep]
 simp only [Option.bind_some,Zjs hl]
 by_cases h1:edge<0
 ·simp only [h1,decide_true,if_true,Option.bind_some,Bool.true_or]; rfl
 ·simp only [h1,decide_false,Bool.false_eq_true,if_false,Option.bind_some,Bool.false_or]
  cases hv:vHs hides with
  | false=>simp only [Bool.not_false,if_true]; rfl
  | true=>
   simp only [Bool.not_true,Bool.false_eq_true,if_false,Zmm,Option.bind_some]
   have hM:=hL.live now
   by_cases he:(entP (·.To) most (live now L) real opens).2=0
   ·obtain⟨c1,c2,_⟩:=Zi1 hM hm hr he
    simp only [he,bne_self_eq_false,Bool.false_eq_true,if_false,ne_eq,not_true_eq_false]
    obtain⟨b1,b2,_⟩:=Zjo ho c1.real
    rw [Zlx most (live now L) _ edge hides c1.real c1.del hl b1 b2]
    simp only [Option.bind_some]
    cases hd:(dlv (live now L) (entP (·.To) most (live now L) real opens).1 edge hides).2 with
    | false=>simp only [Bool.not_false,if_true]; rfl
    | true=>
     simp only [Bool.not_true,Bool.false_eq_true,if_false]
     rw [Znh _ _ _ hn]
     rfl
   ·rw [if_pos (by simpa using he),if_pos he]; rfl
theorem Zkn {M:TB} {c:Zb} {edge:Int} {hides:List Zl} (h:(dlv M c edge hides).2=true) :
  ((dlv M c edge hides).1=c.Delivered∧c.To=edge∧cB (candB hides c.Real) c.Delivered=true∧allowB c.Real (decide (mH hides c.Real ≥ 0)) c.Delivered.SrcPort=true) ∨
  ∃ u,(dlv M c edge hides).1=hdrB c.Real (candB hides c.Real) u∧usedB M c.Real (hdrB c.Real (candB hides c.Real) u)=false∧(candB hides c.Real).x3.Lo≤u∧u≤(candB hides c.Real).x3.Hi:=by
 unfold dlv at h ⊢
 by_cases hc:(c.To == edge && cB (candB hides c.Real) c.Delivered && allowB c.Real (decide (mH hides c.Real ≥ 0)) c.Delivered.SrcPort)=true
 ·rw [if_pos hc]
  simp only [Bool.and_eq_true,beq_iff_eq] at hc
  exact .inl ⟨rfl,hc.1.1,hc.1.2,hc.2⟩
 ·rw [if_neg hc] at h ⊢
  right
  split at h
  ·cases h
  ·rename_i u hu
   obtain⟨s1,s2,s3⟩:=Zjn hu
   simp only [Bool.and_eq_true,Bool.not_eq_true'] at s1
   exact⟨u,rfl,s1.1,s2,by omega⟩
theorem Zk1 {M:TB} {real h:Za} (hu:usedB M real h=false):∀ y∈M,y.1 ≠ real→y.2.To ≠ -1→y.2.Delivered ≠ h:=fun y hy n1 n2 e=>by
 unfold usedB at hu
 rw [← Bool.not_eq_true,List.any_eq_true] at hu
 refine hu ⟨y,hy,?_⟩
 simp only [Bool.and_eq_true,Bool.not_eq_true',eqHf,bne_iff_ne,eqH]
 exact⟨⟨n1,n2⟩,e⟩
theorem Zni {L:TB} (hL:Inv L) {most:Int} (hm:most≤64) (edge:Int) {real:Za} (hr:Zo real) (cls:ByteArray) {hides:List Zl} (ho:∀ m∈hides,Zcm m) (opens:Bool) (now:Int):Inv (egr most L edge real cls hides opens now).2.2:=by
 have hM:=hL.live now
 unfold egr
 by_cases h1:(decide (edge<0) || !(vHs hides))=true
 ·rw [if_pos h1]; exact hM
 ·rw [if_neg h1]
  have he:0≤edge:=by
   simp only [Bool.or_eq_true,decide_eq_true_eq,not_or] at h1
   omega
  by_cases h2:(entP (·.To) most (live now L) real opens).2 ≠ 0
  ·rw [if_pos h2]; exact hM
  ·rw [if_neg h2]
   have h2:=Classical.not_not.1 h2
   obtain⟨c1,c2,c3⟩:=Zi1 hM hm hr h2
   generalize entP (·.To) most (live now L) real opens=e at c1 c2 c3 h2 ⊢
   by_cases h3:(dlv (live now L) e.1 edge hides).2=false
   ·rw [if_pos h3]; exact hM
   ·rw [if_neg h3]
    have h3:=(Bool.not_eq_false _).mp h3
    have hd:=Zkn h3
    generalize hdd:dlv (live now L) e.1 edge hides=d at hd h3 ⊢
    have okd:Zo d.1:=by
     rcases hd with ⟨q,_⟩ | ⟨u,q,_,q2,q3⟩
     ·rw [q]; exact c1.del
     ·rw [q]; exact Zlk ho c1.real q2 q3
    rw [c2]
    refine hM.put (CoK.rfr (show CoK { e.1 with To:=edge,Delivered:=d.1,Class:=cls } from ⟨c1.real,okd,c1.fr,.inr he,c1.st⟩) now) c2 (c3.imp (·.2) (·.2)) fun _ y hy n1 n2=>?_
    show y.2.Delivered ≠ d.1
    rcases hd with ⟨q1,q2,_⟩ | ⟨u,q1,q2,_⟩
    ·rcases c3 with ⟨c3,_⟩ | ⟨c3,_⟩
     ·rw [q1]
      intro eq
      have:=hM.un y hy _ c3 n2 (by show e.1.To ≠ -1; omega) eq
      exact n1 (by rw [this])
     ·rw [c3] at q2
      have:(newC real).To=-1:=rfl
      omega
    ·rw [q1,← c2] at *
     exact Zk1 q2 y hy (by rw [c2]; exact n1) n2
end Go.AM
set_option maxRecDepth 100000
namespace Go.AM
open Go
open Go.Sort (SWO)
open Go.Proofs (ltOf)
def rev (h:Za):Za:=⟨h.Dst,h.Src,h.Proto,h.DstPort,h.SrcPort⟩
theorem Znj (h:Za):rev (rev h)=h:=rfl
theorem Znk (h:Za):Zck h=some (rev h):=rfl
theorem Znl (h:Za):Zb3 h=some (rev h):=rfl
def dP (edge:Int) (want:Za) (x:Za × Zb):Bool:=(x.2.To == edge) && Zi x.2.Delivered want
theorem Zko (edge:Int) (r1:Int × TB) (want:Za):∀ l:TB,mfold (Z6 edge r1 want) l ()=some (match l.find? (dP edge want) with
  | some x=>.inl (x.2,true,r1.2)
  | none=>.inr ())
 | []=>rfl
 | y :: l=>by
  unfold mfold
  rw [Z6,List.find?_cons]
  simp only [Option.bind_some]
  by_cases h:((y.2.To == edge) && Zi y.2.Delivered want)=true
  ·rw [if_pos h,show dP edge want y=true from h]; rfl
  ·rw [if_neg h,show dP edge want y=false from Bool.eq_false_iff.2 h]
   exact Zko edge r1 want l
theorem Inv.uniqD {L:TB} (h:Inv L) {edge:Int} (he:0≤edge) (want:Za):∀ x∈L,∀ y∈L,dP edge want x=true→dP edge want y=true→x=y:=fun x hx y hy h1 h2=>by
 unfold dP at h1 h2
 simp only [Bool.and_eq_true,beq_iff_eq,eqH] at h1 h2
 exact h.un x hx y hy (by omega) (by omega) (by rw [h1.2,h2.2])
def fnd (o:Option (Za × Zb)):Zb × Bool:=match o with
 | some x=>(x.2,true)
 | none=>(zC,false)
theorem Zkp {L:TB} (hL:Inv L) (most:Int) {edge:Int} (he:0≤edge) (h:Za) (now:Int):Zaj most L edge h now=some ((fnd ((live now L).find? (dP edge (rev h)))).1,(fnd ((live now L).find? (dP edge (rev h)))).2,live now L):=by
 unfold Zaj
 rw [if_neg (by simpa using he),hL.sweep]
 simp only [Option.bind_some,Znk]
 refine Zg0 fun l' hp=>?_
 rw [Zko,Zjh hp fun x hx y hy=>(hL.live now).uniqD he (rev h) x (hp.mem_iff.1 hx) y (hp.mem_iff.1 hy)]
 simp only [Option.bind_some]
 cases (live now L).find? (dP edge (rev h)) with
 | none=>rfl
 | some x=>rfl
def lx {α:Type} (f:α→Int) (lt:α→α→Bool) (x y:α):Bool:=decide (f x<f y) || (decide (f x=f y) && lt x y)
theorem swo_lx {α:Type} (f:α→Int) {lt:α→α→Bool} (h:SWO lt):SWO (lx f lt) where
 irrefl x:=by simp [lx,h.irrefl]
 trans x y z h1 h2:=by
  unfold lx at *
  simp only [Bool.or_eq_true,Bool.and_eq_true,decide_eq_true_eq] at *
  rcases h1 with h1 | ⟨h1,k1⟩ <;> rcases h2 with h2 | ⟨h2,k2⟩
  ·left; omega
  ·left; omega
  ·left; omega
  ·right; exact⟨by omega,h.trans _ _ _ k1 k2⟩
 ntrans x y z h1 h2:=by
  unfold lx at *
  simp only [Bool.or_eq_false_iff,Bool.and_eq_false_iff,decide_eq_false_iff_not] at *
  refine⟨by omega,?_⟩
  by_cases e:f x=f z
  ·have e1:f x=f y:=by omega
   have e2:f y=f z:=by omega
   right
   exact h.ntrans _ _ _ (h1.2.resolve_left (fun k=>k e1)) (h2.2.resolve_left (fun k=>k e2))
  ·exact .inl e
theorem Zm4 {α:Type}:SWO (fun _ _:α=>false):=⟨fun _=>rfl,fun _ _ _ h=>(by cases h),fun _ _ _ _ _=>rfl⟩
def ltH:Za→Za→Bool:=lx (·.Src) (lx (·.Dst) (lx (·.Proto) (lx (·.SrcPort) (lx (·.DstPort) fun _ _=>false))))
theorem swoH:SWO ltH:=swo_lx _ (swo_lx _ (swo_lx _ (swo_lx _ (swo_lx _ Zm4))))
theorem Zmo {a b:Za} (h1:ltH a b=false) (h2:ltH b a=false):a=b:=by
 unfold ltH lx at h1 h2
 simp only [Bool.or_eq_false_iff,Bool.and_eq_false_iff,decide_eq_false_iff_not] at h1 h2
 obtain⟨a1,h1⟩:=h1
 obtain⟨b1,h2⟩:=h2
 have e1:a.Src=b.Src:=by omega
 obtain⟨a2,h1⟩:=h1.resolve_left (fun k=>k e1)
 obtain⟨b2,h2⟩:=h2.resolve_left (fun k=>k e1.symm)
 have e2:a.Dst=b.Dst:=by omega
 obtain⟨a3,h1⟩:=h1.resolve_left (fun k=>k e2)
 obtain⟨b3,h2⟩:=h2.resolve_left (fun k=>k e2.symm)
 have e3:a.Proto=b.Proto:=by omega
 obtain⟨a4,h1⟩:=h1.resolve_left (fun k=>k e3)
 obtain⟨b4,h2⟩:=h2.resolve_left (fun k=>k e3.symm)
 have e4:a.SrcPort=b.SrcPort:=by omega
 obtain⟨a5,h1⟩:=h1.resolve_left (fun k=>k e4)
 obtain⟨b5,h2⟩:=h2.resolve_left (fun k=>k e4.symm)
 have e5:a.DstPort=b.DstPort:=by omega
 cases a; cases b
 simp only at e1 e2 e3 e4 e5
 subst e1 e2 e3 e4 e5
 rfl
def c3 (a b:Int):Int:=if a<b then -1 else if b<a then 1 else 0
theorem Zkq (a b:Int):Zas a b=some (c3 a b):=by
 unfold Zas Zbh c3
 simp only [bne_self_eq_false,Option.bind_some,Bool.false_eq_true,if_false,decide_eq_true_eq,gt_iff_lt]
 repeat' split
 all_goals rfl
theorem Znm (a b:Int):Zbb a b=some (c3 a b):=by
 unfold Zbb Zbn c3
 simp only [bne_self_eq_false,Option.bind_some,Bool.false_eq_true,if_false,decide_eq_true_eq,gt_iff_lt]
 repeat' split
 all_goals rfl
theorem Zkr (a b:Int):Zat a b=some (c3 a b):=by
 unfold Zat Zbi c3
 simp only [bne_self_eq_false,Option.bind_some,Bool.false_eq_true,if_false,decide_eq_true_eq,gt_iff_lt]
 repeat' split
 all_goals rfl
def orV:List Int→Int
 | []=>0
 | x :: l=>if x ≠ 0 then x else orV l
def gOr (_:Nat) (x:Int):Option Int:=if x ≠ 0 then some x else none
theorem Zks:∀(l:List Int) (i:Nat),(match findI gOr i l with | some r=>r | none=>0)=orV l
 | [],_=>rfl
 | x :: l,i=>by
  unfold findI gOr orV
  by_cases h:x ≠ 0
  ·rw [if_pos h,if_pos h]
  ·rw [if_neg h,if_neg h]; exact Zks l (i + 1)
theorem Or_eq (l:List Int) (hl:l.length≤1000000000000):Zcs l=some (orV l):=by
 unfold Zcs
 rw [Zd1 (L:=Za7 l) l gOr hl (fun n i hi=>by
  rw [Za7]
  simp only [show ((i:Int)<(l.length:Int)) from by omega,decide_true,if_true,Zec hi,Option.bind_some,wsucc (by omega:i<1000000000001)]
  unfold gOr
  by_cases h:l[i]=0
  ·rw [if_neg (by simp [h]),if_neg (by simp [h])]
  ·rw [if_pos (by simpa using h),if_pos h]) (fun n=>by rw [Za7]; simp)]
 have:=Zks l 0
 cases hf:findI gOr 0 l with
 | none=>rw [hf] at this; rw [← this]; rfl
 | some r=>rw [hf] at this; rw [← this]; rfl
theorem orV_c3 (a b:Int) (l:List Int):decide (orV (c3 a b :: l)<0)=(decide (a<b) || (decide (a=b) && decide (orV l<0))):=by
 rw [orV]
 unfold c3
 by_cases h1:a<b
 ·simp [h1]
 ·by_cases h2:b<a
  ·have:¬ a=b:=by omega
   simp [h1,h2,this]
  ·have:a=b:=by omega
   simp [this]
def cmpL (a b:Za):Int:=orV [c3 a.Src b.Src,c3 a.Dst b.Dst,c3 a.Proto b.Proto,c3 a.SrcPort b.SrcPort,c3 a.DstPort b.DstPort]
theorem Zly (a b:Za):Zbc a b=some (cmpL a b):=by
 unfold Zbc cmpL
 rw [Zkq,Zkq,Znm,Zkr,Zkr]
 simp only [Option.bind_some]
 rw [Or_eq _ (by simp)]; rfl
theorem Znn (a b:Za):decide (cmpL a b<0)=ltH a b:=by
 unfold cmpL ltH lx
 rw [orV_c3,orV_c3,orV_c3,orV_c3,orV_c3]
 rfl
theorem Zkt (a b:Zb):Z2 a b=some (cmpL a.Real b.Real):=by
 unfold Z2
 rw [Zly]; rfl
theorem ltList:ltOf (cmpOf Z2)=fun a b:Zb=>ltH a.Real b.Real:=by
 funext a b
 unfold ltOf cmpOf
 rw [Zkt,Option.getD_some,Znn]
theorem swoL:SWO (ltOf (cmpOf Z2)):=by
 rw [ltList]
 exact⟨fun x=>swoH.irrefl _,fun x y z=>swoH.trans _ _ _,fun x y z=>swoH.ntrans _ _ _⟩
theorem Zk2 {R:List Zb}:∀ {S:List Zb},S.Perm R→S.Pairwise (fun a b=>ltH a.Real b.Real=true)→R.Pairwise (fun a b=>ltH a.Real b.Real=true)→S=R:=by
 induction R with
 | nil=>intro S hp _ _; exact hp.eq_nil
 | cons r R ih=>
  intro S hp hs hr
  cases S with
  | nil=>exact absurd hp.symm.eq_nil (by simp)
  | cons s S=>
   rw [List.pairwise_cons] at hs hr
   have e:s=r:=by
    rcases List.mem_cons.1 (hp.mem_iff.1 List.mem_cons_self) with h | h
    ·exact h
    ·rcases List.mem_cons.1 (hp.mem_iff.2 (List.mem_cons_self (a:=r))) with h2 | h2
     ·exact h2.symm
     ·have a1:=hr.1 s h
      have a2:=hs.1 r h2
      have:=swoH.trans _ _ _ a1 a2
      rw [swoH.irrefl] at this; cases this
   subst e
   rw [ih ((List.perm_cons _).1 hp) hs.2 hr.2]
theorem Zmp {S:List Zb} (h1:S.Pairwise (fun a b=>ltH b.Real a.Real=false)) (h2:(S.map (·.Real)).Nodup):S.Pairwise (fun a b=>ltH a.Real b.Real=true):=by
 induction S with
 | nil=>exact .nil
 | cons a S ih=>
  rw [List.map_cons,List.nodup_cons] at h2
  rw [List.pairwise_cons] at h1 ⊢
  refine⟨fun b hb=>?_,ih h1.2 h2.2⟩
  cases hlt:ltH a.Real b.Real with
  | true=>rfl
  | false=>
   exact absurd (List.mem_map.2 ⟨b,hb,(Zmo hlt (h1.1 b hb)).symm⟩) h2.1
theorem TaOk.reals {M:TB} (h:TaOk M):(M.map (·.2)).map (·.Real)=M.map (·.1):=by
 rw [List.map_map]
 exact List.map_congr_left fun x hx=>h.real x hx
theorem Zir:∀(l:TB) (out:List Zb),out.length + l.length≤1000000→mfold Zae l out=some (.inr (out++l.map (·.2)))
 | [],out,_=>by simp [mfold]
 | y :: l,out,h=>by
  rw [List.length_cons] at h
  unfold mfold
  rw [Zae,if_pos (by unfold lim; simp only [List.length_singleton]; omega)]
  simp only [Option.bind_some]
  rw [Zir l _ (by rw [List.length_append,List.length_singleton]; omega),List.append_assoc]
  rfl
theorem Zll {M:TB} (h:TaOk M) (hl:M.length≤64):∃ S,sortFn Z2 (M.map (·.2))=some S∧S.Perm (M.map (·.2))∧S.Pairwise (fun a b=>ltH a.Real b.Real=true):=by
 have hs:∃ S,sortFn Z2 (M.map (·.2))=some S:=by
  unfold sortFn
  rw [if_pos ⟨fun x y=>by rw [Zkt]; rfl,swoL,by rw [List.length_map]; omega⟩]
  exact⟨_,rfl⟩
 obtain⟨S,hS⟩:=hs
 obtain⟨p1,p2⟩:=Zhd hS
 rw [ltList] at p2
 refine⟨S,hS,p1,Zmp p2 ?_⟩
 rw [(p1.map _).nodup_iff,h.reals]
 exact h.nd
theorem Zno {L:TB} (hL:Inv L) (most now:Int):∃ S,Zax most L now=some (S,live now L)∧S.Perm ((live now L).map (·.2))∧S.Pairwise (fun a b=>ltH a.Real b.Real=true):=by
 have hM:=hL.live now
 obtain⟨S,s1,s2,s3⟩:=Zll hM.ta hM.len
 refine⟨S,?_,s2,s3⟩
 unfold Zax
 rw [hL.sweep]
 simp only [Option.bind_some]
 refine Zg0 fun l' hp=>?_
 have hl':TaOk l':=⟨(hp.map _).nodup_iff.2 hM.ta.nd,fun x hx=>hM.ta.real x (hp.mem_iff.1 hx)⟩
 rw [Zir l' [] (by have:=hM.len; rw [hp.length_eq]; simp; omega)]
 simp only [Option.bind_some,List.nil_append]
 obtain⟨S',t1,t2,t3⟩:=Zll hl' (by rw [hp.length_eq]; exact hM.len)
 rw [t1]
 simp only [Option.bind_some]
 rw [if_pos t2.length_eq]
 have:S'=S:=Zk2 (t2.trans ((hp.map _).trans s2.symm)) t3 s3
 rw [this]
end Go.AM
set_option maxRecDepth 100000
namespace Go.AM
open Go
theorem vB_iff (b:BoxR):vB b=true ↔ (b.x0.Lo≤b.x0.Hi∧b.x0.Hi≤4294967295)∧(b.x1.Lo≤b.x1.Hi∧b.x1.Hi≤4294967295)∧(b.x2.Lo≤b.x2.Hi∧b.x2.Hi≤255)∧(b.x3.Lo≤b.x3.Hi∧b.x3.Hi≤65535)∧(b.x4.Lo≤b.x4.Hi∧b.x4.Hi≤65535):=by
 have key:∀(t:Int) (r:Zh),sideBad t r=true ↔ ¬ (r.Lo≤r.Hi∧r.Hi≤t):=fun t r=>by
  unfold sideBad
  simp only [Bool.or_eq_true,decide_eq_true_eq]
  omega
 unfold vB
 simp only [key]
 by_cases h0:b.x0.Lo≤b.x0.Hi∧b.x0.Hi≤4294967295
 ·by_cases h1:b.x1.Lo≤b.x1.Hi∧b.x1.Hi≤4294967295
  ·by_cases h2:b.x2.Lo≤b.x2.Hi∧b.x2.Hi≤255
   ·by_cases h3:b.x3.Lo≤b.x3.Hi∧b.x3.Hi≤65535
    ·by_cases h4:b.x4.Lo≤b.x4.Hi∧b.x4.Hi≤65535
     ·simp [h0,h1,h2,h3,h4]
     ·simp [h0,h1,h2,h3,h4]
    ·simp [h0,h1,h2,h3]
   ·simp [h0,h1,h2]
  ·simp [h0,h1]
 ·simp [h0]
theorem cB_iff (b:BoxR) (h:Za):cB b h=true ↔ (b.x0.Lo≤h.Src∧h.Src≤b.x0.Hi∧b.x0.Hi≤4294967295)∧(b.x1.Lo≤h.Dst∧h.Dst≤b.x1.Hi∧b.x1.Hi≤4294967295)∧(b.x2.Lo≤h.Proto∧h.Proto≤b.x2.Hi∧b.x2.Hi≤255)∧(b.x3.Lo≤h.SrcPort∧h.SrcPort≤b.x3.Hi∧b.x3.Hi≤65535)∧(b.x4.Lo≤h.DstPort∧h.DstPort≤b.x4.Hi∧b.x4.Hi≤65535):=by
 unfold cB allF
 rw [Bool.and_eq_true,vB_iff]
 have o0:outB b (hv h) 0=false ↔ (b.x0.Lo≤h.Src∧h.Src≤b.x0.Hi):=by
  show (decide (h.Src<b.x0.Lo) || decide (h.Src > b.x0.Hi))=false ↔ _
  simp only [Bool.or_eq_false_iff,decide_eq_false_iff_not]; omega
 have o1:outB b (hv h) 1=false ↔ (b.x1.Lo≤h.Dst∧h.Dst≤b.x1.Hi):=by
  show (decide (h.Dst<b.x1.Lo) || decide (h.Dst > b.x1.Hi))=false ↔ _
  simp only [Bool.or_eq_false_iff,decide_eq_false_iff_not]; omega
 have o2:outB b (hv h) 2=false ↔ (b.x2.Lo≤h.Proto∧h.Proto≤b.x2.Hi):=by
  show (decide (h.Proto<b.x2.Lo) || decide (h.Proto > b.x2.Hi))=false ↔ _
  simp only [Bool.or_eq_false_iff,decide_eq_false_iff_not]; omega
 have o3:outB b (hv h) 3=false ↔ (b.x3.Lo≤h.SrcPort∧h.SrcPort≤b.x3.Hi):=by
  show (decide (h.SrcPort<b.x3.Lo) || decide (h.SrcPort > b.x3.Hi))=false ↔ _
  simp only [Bool.or_eq_false_iff,decide_eq_false_iff_not]; omega
 have o4:outB b (hv h) 4=false ↔ (b.x4.Lo≤h.DstPort∧h.DstPort≤b.x4.Hi):=by
  show (decide (h.DstPort<b.x4.Lo) || decide (h.DstPort > b.x4.Hi))=false ↔ _
  simp only [Bool.or_eq_false_iff,decide_eq_false_iff_not]; omega
 rw [Bool.not_eq_true',Bool.or_eq_false_iff,Bool.or_eq_false_iff,Bool.or_eq_false_iff,Bool.or_eq_false_iff,o0,o1,o2,o3,o4]
 omega
theorem Zlm {h:Za} (hh:Zo h):cB full h=true:=by
 obtain⟨h1,h2,h3,h4,h5,_⟩:=hh
 unfold Zb1 at h1 h2; unfold ok_u8 at h3; unfold Zbf at h4 h5
 rw [cB_iff]
 unfold full
 simp only
 omega
theorem Znp {t:Zr} (ht:TOk t):Ok (Zb2 t) fun r=>Zo r.1∧(r.1.Proto=6∨r.1.Proto=17∨r.1.Proto=1∨r.1.Proto=50)∧TOk r.2:=by
 unfold Zb2
 refine Ok.bind (Zi0 ht 3 (by omega) (by omega)) fun r1 ⟨⟨a1,a2⟩,t1⟩=>?_
 refine Ok.bind (Zi0 t1 4 (by omega) (by omega)) fun r3 ⟨⟨b1,b2⟩,t3⟩=>?_
 refine Ok.bind (Ok.idx (p:=fun x=>x=6∨x=17∨x=1∨x=50) b1 (by simp; omega) (fun x hx=>by simpa using hx)) fun x5 hx=>?_
 refine Ok.bind (Zi0 t3 2 (by omega) (by omega)) fun r7 ⟨⟨c1,c2⟩,t7⟩=>?_
 rw [wu32 (x:=r1.1) (by omega) (by omega),wu32 (x:=167772160 + r1.1) (by omega) (by omega),wi64 (x:=1000 + r7.1) (by omega) (by omega),wu16' (x:=1000 + r7.1) (by omega) (by omega)]
 have hb:∀(sp dp:Int),Zbf sp→Zbf dp→Zo ⟨167772160 + r1.1,167772416,x5,sp,dp⟩:=fun sp dp h1 h2=>⟨by unfold Zb1; show 0≤167772160 + r1.1∧_; constructor <;> (try show 167772160 + r1.1<4294967296) <;> omega,by unfold Zb1; show (0:Int)≤167772416∧(167772416:Int)<4294967296; omega,by unfold ok_u8; show 0≤x5∧x5<256; omega,h1,h2,trivial⟩
 have u1:Zbf (1000 + r7.1):=by unfold Zbf; omega
 refine Ok.bind (p:=fun v=>Zo v∧v.Proto=x5) (Ok.ite (fun _=>Ok.ret ⟨hb (1000 + r7.1) 8 u1 (by unfold Zbf; omega),rfl⟩) fun _=>Ok.ite (fun _=>Ok.ret ⟨hb 0 0 (by unfold Zbf; omega) (by unfold Zbf; omega),rfl⟩) fun _=>Ok.ret ⟨hb (1000 + r7.1) 80 u1 (by unfold Zbf; omega),rfl⟩) fun v ⟨v1,v2⟩=>Ok.ret ⟨v1,by rw [v2]; exact hx,t7⟩
structure Jnv (L:TB):Prop where
 inv:Inv L
 all:∀ x∈L,x.2.To=1∧0<x.2.Expires
 len:L.length≤8
theorem Jnv.live {L:TB} (h:Jnv L):live 0 L=L:=by
 unfold AM.live
 exact List.filter_eq_self.2 fun x hx=>by simpa using (h.all x hx).2
def hideD (r:Int):Zl:=⟨full,3325256705,⟨1024,1024 + r⟩⟩
theorem Zku {r:Int} (h0:0≤r) (h1:r<4):∀ m∈[hideD r],Zcm m:=fun m hm=>by
 rw [List.mem_singleton] at hm
 subst hm
 unfold hideD Zcm Zes Zbw Zb1 full
 simp only
 exact⟨⟨⟨by omega,by omega,trivial⟩,⟨by omega,by omega,trivial⟩,⟨by omega,by omega,trivial⟩,⟨by omega,by omega,trivial⟩,⟨by omega,by omega,trivial⟩,trivial⟩,by omega,⟨by omega,by omega,trivial⟩,trivial⟩
theorem vH_D {r:Int} (h0:0≤r) (h1:r<4):vH (hideD r)=true:=by
 unfold vH hideD
 simp only [Bool.and_eq_true,decide_eq_true_eq]
 exact⟨⟨by decide,by omega⟩,by omega⟩
theorem vHs_D {r:Int} (h0:0≤r) (h1:r<4):vHs [hideD r]=true:=by
 unfold vHs findI gVH
 rw [if_pos (vH_D h0 h1)]; rfl
theorem mH_D {r:Int} (h0:0≤r) (h1:r<4) {h:Za} (hh:Zo h):mH [hideD r] h=0:=by
 unfold mH findI gH
 have:(vH (hideD r) && cB (hideD r).Match h)=true:=by
  rw [vH_D h0 h1]
  show (true && cB full h)=true
  rw [Zlm hh]; rfl
 rw [if_pos this]; rfl
theorem hdB_D {r:Int} (h0:0≤r) (h1:r<4) {h:Za} (hh:Zo h):hdB (hideD r) h=tgtB (hideD r) (ofB (hv h)):=by
 unfold hdB
 have:(vH (hideD r) && cB (hideD r).Match h)=true:=by
  rw [vH_D h0 h1]
  show (true && cB full h)=true
  rw [Zlm hh]; rfl
 rw [if_pos this]
theorem Znq {r:Int} (h0:0≤r) (h1:r<4) {h:Za} (hh:Zo h) (hp:h.Proto=6∨h.Proto=17∨h.Proto=1):candB [hideD r] h=hdB (hideD r) h:=by
 unfold candB
 rw [mH_D h0 h1 hh,if_neg (by decide)]
 show (if h.Proto=6∨h.Proto=17∨h.Proto=1 then _ else _)=_
 rw [if_pos hp]
theorem Zmq {X:Type} {p:X→Bool} {L:List X} (hu:∀ x∈L,∀ y∈L,p x=true→p y=true→x=y) {x:X} (hx:x∈L) (hp:p x=true):L.find? p=some x:=by
 cases hf:L.find? p with
 | none=>rw [List.find?_eq_none] at hf; exact absurd hp (hf x hx)
 | some y=>rw [hu y (List.mem_of_find?_eq_some hf) x hx (List.find?_some hf) hp]
theorem egr_D {L:TB} (hL:Jnv L) {r:Int} (h0:0≤r) (h1:r<4) {h:Za} (hh:Zo h) (hp:h.Proto=6∨h.Proto=17∨h.Proto=1∨h.Proto=50) :
  Jnv (egr 8 L 1 h ByteArray.empty [hideD r] true 0).2.2∧((egr 8 L 1 h ByteArray.empty [hideD r] true 0).2.1=0→Zo (egr 8 L 1 h ByteArray.empty [hideD r] true 0).1∧(h.Proto=50∨cB (hdB (hideD r) h) (egr 8 L 1 h ByteArray.empty [hideD r] true 0).1=true) ∧
   ∃ c,(h,c)∈(egr 8 L 1 h ByteArray.empty [hideD r] true 0).2.2∧c.Real=h∧c.To=1∧c.Delivered=(egr 8 L 1 h ByteArray.empty [hideD r] true 0).1):=by
 have ho:=Zku h0 h1
 have hinv:=Zni hL.inv (most:=8) (by omega) 1 hh ByteArray.empty ho true 0
 revert hinv
 unfold egr
 rw [hL.live]
 have e0:(decide ((1:Int)<0) || !(vHs [hideD r]))=false:=by rw [vHs_D h0 h1]; rfl
 rw [e0]
 simp only [Bool.false_eq_true,if_false]
 by_cases h2:(entP (·.To) 8 L h true).2 ≠ 0
 ·rw [if_pos h2]
  exact fun _=>⟨hL,fun h=>absurd h h2⟩
 ·rw [if_neg h2]
  have h2:=Classical.not_not.1 h2
  obtain⟨c1,c2,c3⟩:=Zi1 hL.inv (by omega) hh h2
  have hlen:∀ c',(mput Zi L h c').length≤8:=fun c'=>by
   rw [Zkm]
   have:=hL.len
   split
   ·exact this
   ·rename_i hn
    unfold entP at h2
    cases hg:mget Zi L h with
    | some c=>rw [hg] at hn; simp at hn
    | none=>
     rw [hg] at h2
     simp only [Bool.true_eq_false,if_false] at h2
     by_cases h3:(L.length:Int) ≥ 8
     ·rw [if_pos h3] at h2; cases h2
     ·omega
  generalize entP (·.To) 8 L h true=e at c1 c2 c3 h2 ⊢
  by_cases h3:(dlv L e.1 1 [hideD r]).2=false
  ·rw [if_pos h3]
   exact fun _=>⟨hL,fun h=>by cases h⟩
  ·rw [if_neg h3]
   have h3:=(Bool.not_eq_false _).mp h3
   have hd:=Zkn h3
   generalize hdd:dlv L e.1 1 [hideD r]=d at hd h3 ⊢
   rw [c2] at hd ⊢
   have okd:Zo d.1:=by
    rcases hd with ⟨q,_⟩ | ⟨u,q,_,q2,q3⟩
    ·rw [q]; exact c1.del
    ·rw [q]; exact Zlk ho hh q2 q3
   intro hinv
   refine⟨⟨hinv,fun x hx=>?_,hlen _⟩,fun _=>⟨okd,?_,_,Zmk,rfl,rfl,rfl⟩⟩
   ·rcases Zep hx with rfl | ⟨hx,_⟩
    ·refine⟨rfl,?_⟩
     unfold rfr
     have:=lf_rng h.Proto e.1.State
     simp only
     split <;> omega
    ·exact hL.all x hx
   ·by_cases hp50:h.Proto=50
    ·exact .inl hp50
    ·right
     have hp':h.Proto=6∨h.Proto=17∨h.Proto=1:=by
      rcases hp with q | q | q | q
      ·exact .inl q
      ·exact .inr (.inl q)
      ·exact .inr (.inr q)
      ·exact absurd q hp50
     rw [Znq h0 h1 hh hp'] at hd
     rcases hd with ⟨q,_,q3,_⟩ | ⟨u,q,_,q2,q3⟩
     ·rw [q]; exact q3
     ·rw [q]
      rw [hdB_D h0 h1 hh] at q2 q3 ⊢
      obtain⟨o1,o2,o3,o4,o5,_⟩:=hh
      unfold Zb1 at o1 o2; unfold ok_u8 at o3; unfold Zbf at o4 o5
      rw [cB_iff]
      unfold tgtB hideD ofB hv hdrB at *
      simp only at *
      omega
theorem Zfs {r1:Int × TB} (hr:r1.1=8) {r7:Int} (h0:0≤r7) (h1:r7<4):∀(n m:Nat) (L:TB) (t:Zr) (i:Int),Jnv L→TOk t→(12 - i).toNat=n→n<m→0≤i →
  ∃ L' t',Zw r1 full r7 m L t i=some (.inl (L',t'))∧Jnv L'
 | 0,m,L,t,i,hL,ht,hn,hm,hi=>by
  obtain⟨m,rfl⟩:∃ k,m=k + 1:=⟨m - 1,by omega⟩
  rw [Zw,if_neg (by simp; omega)]
  exact⟨L,t,rfl,hL⟩
 | n + 1,m,L,t,i,hL,ht,hn,hm,hi=>by
  obtain⟨m,rfl⟩:∃ k,m=k + 1:=⟨m - 1,by omega⟩
  rw [Zw,if_pos (by simp; omega)]
  have q1:(12 - (i + 1)).toNat=n:=by omega
  have q2:n<m:=by omega
  have q3:0≤i + 1:=by omega
  obtain⟨f,hf,f1,f2,f3⟩:=Znp ht
  rw [hf,hr,wu32 (x:=r7) (by omega) (by omega),wu32 (x:=1024 + r7) (by omega) (by omega),wi64 (x:=i + 1) (by omega) (by omega)]
  simp only [Option.bind_some]
  have hE:=Zmn hL.inv (most:=8) (by omega) 1 f1 ByteArray.empty (Zku h0 h1) (by simp) true (now:=0) (by unfold Zda; omega)
  rw [show [Zl.mk full 3325256705 (Zh.mk 1024 (1024 + r7))]=[hideD r7] from rfl,hE]
  obtain⟨j1,j2⟩:=egr_D hL h0 h1 f1 f2
  generalize egr 8 L 1 f.1 ByteArray.empty [hideD r7] true 0=g at j1 j2 ⊢
  simp only [Option.bind_some]
  by_cases hz:g.2.1=0
  ·obtain⟨k1,k2,c,k3,k4,k5,k6⟩:=j2 hz
   rw [if_neg (by simp [hz]),Znl]
   simp only [Option.bind_some]
   rw [Zkp j1.inv 8 (by omega),j1.live,Znj]
   have hfind:g.2.2.find? (dP 1 g.1)=some (f.1,c):=Zmq (j1.inv.uniqD (by omega) g.1) k3 (by
    unfold dP
    simp only [Bool.and_eq_true,beq_iff_eq,eqH]
    exact⟨k5,k6⟩)
   rw [hfind,show AM.idx [hideD r7] 0=some (hideD r7) from rfl]
   simp only [Option.bind_some,fnd]
   rw [Zlw f1,Option.bind_some,Zgt k1]
   simp only [Option.bind_some,k4,eqHr,Bool.not_true,Bool.or_false]
   have hb:((!cB (hdB (hideD r7) f.1) g.1) && (f.1.Proto != 50))=false:=by
    rcases k2 with k2 | k2
    ·rw [k2]; simp
    ·rw [k2]; rfl
   rw [hb]
   simp only [Bool.false_eq_true,if_false,Option.bind_some]
   exact Zfs hr h0 h1 n m _ _ (i + 1) j1 f3 q1 q2 q3
  ·rw [if_pos (by simpa using hz)]
   simp only [Option.bind_some]
   exact Zfs hr h0 h1 n m _ _ (i + 1) j1 f3 q1 q2 q3
theorem Zm5 {r:List Zb × TB} (h1:(r.1.map (·.Real)).Nodup) (h2:(r.1.map (·.Delivered)).Nodup) (hl:r.1.length≤64) {i:Nat} (hi:i<r.1.length):Zt r (i:Int) fuel 0=some (.inl ()):=by
 have:=Zd1 (L:=Zt r (i:Int)) (r.1.take i) (fun _ _=>none) (by simp; omega) (fun n j hj=>by
  have hj':j<i:=by simp at hj; omega
  rw [Zt,if_pos (by simp; omega),Zec hi,Zec (show j<r.1.length by omega)]
  simp only [Option.bind_some]
  have d1:Zi r.1[i].Delivered r.1[j].Delivered=false:=by
   rw [eqHf]
   intro e
   have:=(List.getElem?_inj (i:=i) (j:=j) (by rw [List.length_map]; exact hi) h2).1 (by rw [List.getElem?_map,List.getElem?_map,List.getElem?_eq_getElem hi,List.getElem?_eq_getElem (show j<r.1.length by omega)]; simp [e])
   omega
  have d2:Zi r.1[i].Real r.1[j].Real=false:=by
   rw [eqHf]
   intro e
   have:=(List.getElem?_inj (i:=i) (j:=j) (by rw [List.length_map]; exact hi) h1).1 (by rw [List.getElem?_map,List.getElem?_map,List.getElem?_eq_getElem hi,List.getElem?_eq_getElem (show j<r.1.length by omega)]; simp [e])
   omega
  rw [d1,d2,wsucc (by omega)]
  rfl) (fun n=>by
  rw [Zt,if_neg (by simp; omega)])
 rw [this]
 have e:∀(l:List Zb) (k:Nat),findI (fun _ _=>(none:Option Bool)) k l=none:=by
  intro l
  induction l with
  | nil=>intro k; rfl
  | cons x l ih=>intro k; exact ih (k + 1)
 rw [e]; rfl
theorem Zmr {r:List Zb × TB} (h1:(r.1.map (·.Real)).Nodup) (h2:(r.1.map (·.Delivered)).Nodup) (hl:r.1.length≤64):Zu r fuel 0=some (.inl ()):=by
 have:=Zd1 (L:=Zu r) r.1 (fun _ _=>none) (by omega) (fun n i hi=>by
  rw [Zu,if_pos (by simp; omega),Zm5 h1 h2 hl hi,wsucc (by omega)]
  rfl) (fun n=>by rw [Zu,if_neg (by simp)])
 rw [this]
 have e:∀(l:List Zb) (k:Nat),findI (fun _ _=>(none:Option Bool)) k l=none:=by
  intro l
  induction l with
  | nil=>intro k; rfl
  | cons x l ih=>intro k; exact ih (k + 1)
 rw [e]; rfl
theorem Zd2 {a0:List Int} {a1:Int} (ha:Zkb a0) (_:Zda a1):Zag a0 a1=some true:=by
 have hsane:Zdb=some true:=rfl
 unfold Zag
 have hnew:Zbg 8=some (8,[]):=rfl
 rw [hnew]
 simp only [Option.isSome_some,if_true,Option.bind_some]
 obtain⟨t,ht,t1⟩:=New_ok (l:=a0) (by have:=ha.1; omega)
 rw [ht,Zng]
 obtain⟨r7,hr7,g0,g1⟩:=Mod_ok (x:=a1) (n:=4) (by omega) (by omega)
 rw [hr7]
 simp only [Option.bind_some]
 obtain⟨L,t',hL,hJ⟩:=Zfs (r1:=(8,[])) rfl g0 g1 12 fuel [] t 0 ⟨Inv.nil,by simp,by simp⟩ t1 (by omega) (by unfold fuel; omega) (by omega)
 rw [hL]
 simp only [Option.bind_some]
 obtain⟨S,s1,s2,s3⟩:=Zno hJ.inv 8 0
 rw [s1,hJ.live] at *
 simp only [Option.bind_some]
 have hlen:S.length≤8:=by rw [s2.length_eq,List.length_map]; exact hJ.len
 have n1:(S.map (·.Real)).Nodup:=by
  rw [(s2.map _).nodup_iff,hJ.inv.ta.reals]
  exact hJ.inv.ta.nd
 have n2:(S.map (·.Delivered)).Nodup:=by
  rw [(s2.map _).nodup_iff,List.map_map]
  rw [List.nodup_iff_pairwise_ne,List.pairwise_map]
  have h1:=hJ.inv.ta.nd
  rw [List.nodup_iff_pairwise_ne,List.pairwise_map] at h1
  refine h1.imp_of_mem fun {x y} hx hy hne e=>hne ?_
  rw [hJ.inv.un x hx y hy (by rw [(hJ.all x hx).1]; omega) (by rw [(hJ.all y hy).1]; omega) e]
 rw [Zmr (r:=(S,L)) n1 n2 (by show S.length≤64; omega)]
 simp only [Option.bind_some,show decide ((S.length:Int)≤8)=true from by simp; omega,if_true,hsane]
end Go.AM

/- Parts of a proof, printed short. No condition. -/
import Derived.Test.YtainggmhdmocfaaGreatDoorCnQ4
set_option maxRecDepth 100000
namespace Go.AM
open Go
theorem Zhq {L:TB} {a:Zc} {v:Za} {x:Zc × Za}:x∈mput Zg L a v→x=(a,v)∨(x∈L∧x.1 ≠ a):=by
 unfold mput
 split
 ·intro hx
  obtain⟨y,hy,rfl⟩:=List.mem_map.1 hx
  by_cases hya:Zg a y.1=true
  ·rw [if_pos hya]; exact .inl rfl
  ·rw [if_neg hya]
   exact .inr ⟨hy,fun h=>hya ((eqH _ _).2 h.symm)⟩
 ·rename_i hn
  intro hx
  rcases List.mem_append.1 hx with hx | hx
  ·refine .inr ⟨hx,fun h=>hn ?_⟩
   rw [List.any_eq_true]
   exact⟨x,hx,(eqH _ _).2 h.symm⟩
  ·exact .inl (List.mem_singleton.1 hx)
theorem Zry {L:TB} {a:Zc} {v:Za}:(a,v)∈mput Zg L a v:=by
 unfold mput
 split
 ·rename_i h
  obtain⟨x,hx,he⟩:=List.any_eq_true.1 h
  exact List.mem_map.2 ⟨x,hx,by rw [if_pos he]⟩
 ·simp
theorem Zrz {L:TB} {a:Zc} {v:Za} {x:Zc × Za} (hx:x∈L) (hne:x.1 ≠ a):x∈mput Zg L a v:=by
 unfold mput
 split
 ·exact List.mem_map.2 ⟨x,hx,by rw [if_neg (by rw [eqH]; exact Ne.symm hne)]⟩
 ·exact List.mem_append_left _ hx
theorem TaOk.put {L:TB} (h:TaOk L) {a:Zc} {v:Za} (hv:v.Real=a):TaOk (mput Zg L a v):=by
 refine⟨?_,fun x hx=>?_⟩
 ·unfold mput
  split
  ·rw [List.map_map]
   have:(L.map ((fun x=>x.1) ∘ fun x=>if Zg a x.1=true then (a,v) else x))=L.map (·.1):=List.map_congr_left fun x _=>by
    simp only [Function.comp]
    split
    ·rename_i he; exact(eqH _ _).1 he
    ·rfl
   rw [this]; exact h.nd
  ·rename_i hn
   rw [List.map_append,List.nodup_append]
   refine⟨h.nd,by simp,fun y hy z hz=>?_⟩
   simp only [List.map_cons,List.map_nil,List.mem_singleton] at hz
   subst hz
   intro hyz
   subst hyz
   obtain⟨x,hx,rfl⟩:=List.mem_map.1 hy
   exact hn (List.any_eq_true.2 ⟨x,hx,eqHr _⟩)
 ·rcases Zhq hx with rfl | ⟨hx,_⟩
  ·exact hv
  ·exact h.real x hx
theorem Zsp {X:Type} (p:X→Bool) (L:List X):(L.find? p).isSome=L.any p:=by
 cases hf:L.find? p with
 | none=>
  rw [List.find?_eq_none] at hf
  symm
  show L.any p=false
  rw [← Bool.not_eq_true,List.any_eq_true]
  rintro⟨x,hx,h⟩
  exact hf x hx h
 | some x=>
  symm
  exact List.any_eq_true.2 ⟨x,List.mem_of_find?_eq_some hf,List.find?_some hf⟩
theorem Zsq {L:TB} {a:Zc} {v:Za}:(mput Zg L a v).length=if (mget Zg L a).isSome=true then L.length else L.length + 1:=by
 have e:(mget Zg L a).isSome=L.any (fun x=>Zg a x.1):=by
  unfold mget
  rw [Option.isSome_map,Zsp]
 unfold mput
 rw [e]
 split
 ·rw [List.length_map]
 ·rw [List.length_append]; rfl
theorem Zr0 (M:List (Zc × Bool)) (a k:Zc) (v:Bool):mget Zg (mput Zg M a v) k=if Zg a k=true then some v else mget Zg M k:=by
 unfold mget mput
 split
 ·rename_i h
  rw [List.find?_map,Option.map_map]
  by_cases hak:Zg a k=true
  ·rw [if_pos hak]
   have:=(eqH _ _).1 hak
   subst this
   have hcomp:((fun x:Zc × Bool=>Zg a x.1) ∘ fun x=>if Zg a x.1=true then (a,v) else x)=fun x=>Zg a x.1:=by
    funext x
    simp only [Function.comp]
    split
    ·rename_i he; rw [eqHr,he]
    ·rfl
   rw [hcomp]
   cases hf:M.find? (fun x=>Zg a x.1) with
   | none=>
    obtain⟨x,hx,he⟩:=List.any_eq_true.1 h
    rw [List.find?_eq_none] at hf
    exact absurd he (hf x hx)
   | some x=>
    have:=List.find?_some hf
    simp only [Option.map_some,Function.comp,if_pos this]
  ·rw [if_neg hak]
   have hcomp:((fun x:Zc × Bool=>Zg k x.1) ∘ fun x=>if Zg a x.1=true then (a,v) else x)=fun x=>Zg k x.1:=by
    funext x
    simp only [Function.comp]
    split
    ·rename_i he
     have:=(eqH _ _).1 he
     rw [← this]
    ·rfl
   rw [hcomp]
   cases hf:M.find? (fun x=>Zg k x.1) with
   | none=>rfl
   | some x=>
    have h1:=List.find?_some hf
    have:¬ Zg a x.1=true:=fun he=>hak (by rw [eqH] at he h1 ⊢; rw [he,h1])
    simp only [Option.map_some,Function.comp,if_neg this]
 ·rename_i h
  rw [List.find?_append]
  by_cases hak:Zg a k=true
  ·rw [if_pos hak]
   have:=(eqH _ _).1 hak
   subst this
   have:M.find? (fun x=>Zg a x.1)=none:=by
    rw [List.find?_eq_none]
    exact fun x hx he=>h (List.any_eq_true.2 ⟨x,hx,he⟩)
   rw [this]
   simp [eqHr]
  ·rw [if_neg hak]
   have:Zg k a=false:=by
    rw [eqHs]
    simpa using hak
   cases hf:M.find? (fun x=>Zg k x.1) with
   | none=>simp [this]
   | some x=>rfl
def lf (p s:Int):Int:=if p=6 then (if s=2 then 600 else if s=3 then 10 else 30) else 60
theorem lf_rng (p s:Int):10≤lf p s∧lf p s≤600:=by
 unfold lf
 repeat' split
 all_goals omega
theorem Zp7 (c:Za):Zcr c=some (lf c.Real.Proto c.State):=by
 unfold Zcr lf
 by_cases h1:c.Real.Proto=6
 ·rw [if_neg (by simp [h1]),if_pos h1]
  by_cases h2:c.State=2
  ·rw [if_pos (by simp [h2]),if_pos h2]
  ·rw [if_neg (by simpa using h2),if_neg h2]
   by_cases h3:c.State=3
   ·rw [if_pos (by simp [h3]),if_pos h3]
   ·rw [if_neg (by simpa using h3),if_neg h3]
 ·rw [if_pos (by simpa using h1),if_neg h1]
def rfr (c:Za) (now:Int):Za:={ c with Expires:=if now≤9223372036854775807 - lf c.Real.Proto c.State then now + lf c.Real.Proto c.State else 9223372036854775807 }
theorem Zg6 (most:Int) (L:TB) (c:Za) {now:Int} (hn:Zcl now):Zan most L c now=some (mput Zg L c.Real (rfr c now)):=by
 unfold Zan rfr
 unfold Zcl at hn
 have:=lf_rng c.Real.Proto c.State
 rw [Zp7]
 simp only [Option.bind_some]
 rw [wi64 (by omega) (by omega)]
 by_cases h:now≤9223372036854775807 - lf c.Real.Proto c.State
 ·rw [if_pos (by simpa using h),if_pos h,wi64 (by omega) (by omega)]; rfl
 ·rw [if_neg (by simpa using h),if_neg h]; rfl
def allowB (real:Zc) (hid:Bool) (v:Int):Bool:=!hid || (real.Proto != 1) || (v != 8)
theorem Znc (real:Zc) (hid:Bool) (v:Int):Zcy real hid v=some (allowB real hid v):=rfl
def usedB (L:TB) (real h:Zc):Bool:=L.any fun y=>(!(Zg y.1 real) && (y.2.To != -1)) && Zg y.2.Delivered h
theorem Zk1 (c:Za):∀(l:TB) (M:List (Zc × Bool)),∃ M',mfold (Zaj c) l M=some (.inr M')∧∀ h,(mget Zg M' h).getD false=(usedB l c.Real h || (mget Zg M h).getD false)
 | [],M=>⟨M,rfl,fun h=>by simp [usedB]⟩
 | y :: l,M=>by
  unfold mfold
  rw [Zaj]
  simp only [Option.bind_some]
  by_cases hc:(!(Zg y.1 c.Real) && (y.2.To != -1))=true
  ·rw [if_pos hc]
   simp only [Option.bind_some]
   obtain⟨M',h1,h2⟩:=Zk1 c l (mput Zg M y.2.Delivered true)
   refine⟨M',h1,fun h=>?_⟩
   rw [h2,Zr0]
   unfold usedB
   rw [List.any_cons,hc,Bool.true_and]
   cases Zg y.2.Delivered h <;> simp
  ·rw [if_neg hc]
   simp only [Option.bind_some]
   obtain⟨M',h1,h2⟩:=Zk1 c l M
   refine⟨M',h1,fun h=>?_⟩
   rw [h2]
   unfold usedB
   rw [List.any_cons,Bool.eq_false_iff.2 hc,Bool.false_and,Bool.false_or]
def candB (hides:List Zp) (real:Zc):BoxR:=if mH hides real<0 then ofB (hv real) else
 match hides[(mH hides real).toNat]? with
 | some m=>if real.Proto=6∨real.Proto=17∨real.Proto=1 then hdB m real else { hdB m real with x3:=⟨0,0⟩ }
 | none=>ofB (hv real)
theorem Zos {hides:List Zp} {real:Zc} (hh:Zu real) (hl:hides.length≤1000000000000):Zce hides real=some (candB hides real):=by
 unfold Zce candB
 rw [Zk0 hh hl]
 simp only [Option.bind_some]
 by_cases hn:mH hides real<0
 ·rw [if_pos (by simpa using hn),if_pos hn,Of_box hh]; rfl
 ·rw [if_neg (by simpa using hn),if_neg hn]
  obtain⟨j,m,h1,h2,_,_⟩:=Zi4 hn
  rw [h2,Int.toNat_natCast,h1]
  have hj:=(List.getElem?_eq_some_iff.1 h1).1
  rw [Zbm hj]
  have e:hides[j]=m:=(List.getElem?_eq_some_iff.1 h1).2
  simp only [Option.bind_some,e,Zrx hh]
  by_cases p6:real.Proto=6
  ·simp [p6]
  ·by_cases p17:real.Proto=17
   ·simp [p17]
   ·by_cases p1:real.Proto=1
    ·simp [p1]
    ·simp [p6,p17,p1]
def hdrB (real:Zc) (x:BoxR) (v:Int):Zc:={ real with Src:=x.x0.Lo,SrcPort:=v }
def srch (p:Int→Bool):Nat→Int→Option Int
 | 0,_=>none
 | n + 1,v=>if p v=true then some v else srch p n (v + 1)
theorem Zoi {p:Int→Bool}:∀ {n:Nat} {v r:Int},srch p n v=some r→p r=true∧v≤r∧r<v + n
 | 0,_,_,h=>by cases h
 | n + 1,v,r,h=>by
  unfold srch at h
  split at h
  ·simp only [Option.some.injEq] at h; subst h
   rename_i hp
   exact⟨hp,Int.le_refl _,by omega⟩
  ·obtain⟨h1,h2,h3⟩:=Zoi h
   exact⟨h1,by omega,by omega⟩
theorem wu16' {x:Int} (h0:0≤x) (h1:x<65536):IntKind.wrap .u16 x=x:=by
 simp only [IntKind.wrap,IntKind.bits,IntKind.signed]
 simp
 omega
theorem Zk2 (c:Za) (r1:Int) (x:BoxR) (M:List (Zc × Bool)) (hx:x.x3.Hi≤65535):∀(n m:Nat) (b:Zc) (v:Int),0≤v→(x.x3.Hi + 1 - v).toNat=n→n<m→(∃ s,b={ c.Real with Src:=x.x0.Lo,SrcPort:=s }) →
  ∃ o,Zaa c r1 x M m b v=some o∧(match srch (fun v=>!((mget Zg M (hdrB c.Real x v)).getD false) && allowB c.Real (decide (r1 ≥ 0)) v) n v with
   | none=>∃ h,o=.inl h
   | some u=>o=.inr (hdrB c.Real x u,true))
 | 0,m,b,v,h0,hn,hm,hb=>by
  obtain⟨m,rfl⟩:∃ k,m=k + 1:=⟨m - 1,by omega⟩
  rw [Zaa,if_neg (by simp; omega)]
  exact⟨_,rfl,b,rfl⟩
 | n + 1,m,b,v,h0,hn,hm,⟨s,hb⟩=>by
  obtain⟨m,rfl⟩:∃ k,m=k + 1:=⟨m - 1,by omega⟩
  rw [Zaa,if_pos (by simp; omega)]
  rw [wu16' h0 (by omega),wu32 (x:=v + 1) (by omega) (by omega)]
  have e:({ b with SrcPort:=v }:Zc)=hdrB c.Real x v:=by rw [hb]; rfl
  rw [e]
  simp only [Option.bind_some,Znc]
  unfold srch
  by_cases hu:(mget Zg M (hdrB c.Real x v)).getD false=true
  ·rw [hu]
   simp only [Bool.not_true,Bool.false_eq_true,if_false,Option.bind_some,Bool.false_and]
   exact Zk2 c r1 x M hx n m _ (v + 1) (by omega) (by omega) (by omega) ⟨v,rfl⟩
  ·have hu:=Bool.eq_false_iff.2 hu
   rw [hu]
   simp only [Bool.not_false,if_true,Option.bind_some,Bool.true_and]
   by_cases ha:allowB c.Real (decide (r1 ≥ 0)) v=true
   ·rw [if_pos ha,if_pos ha]
    exact⟨_,rfl,rfl⟩
   ·rw [if_neg ha,if_neg ha]
    exact Zk2 c r1 x M hx n m _ (v + 1) (by omega) (by omega) (by omega) ⟨v,rfl⟩
def zH:Zc:=⟨0,0,0,0,0⟩
def dlv (L:TB) (c:Za) (edge:Int) (hides:List Zp):Zc × Bool:=
 if (c.To == edge && cB (candB hides c.Real) c.Delivered && allowB c.Real (decide (mH hides c.Real ≥ 0)) c.Delivered.SrcPort)=true then (c.Delivered,true) else
 match srch (fun v=>!(usedB L c.Real (hdrB c.Real (candB hides c.Real) v)) && allowB c.Real (decide (mH hides c.Real ≥ 0)) v) ((candB hides c.Real).x3.Hi + 1 - (candB hides c.Real).x3.Lo).toNat (candB hides c.Real).x3.Lo with
 | none=>(zH,false)
 | some u=>(hdrB c.Real (candB hides c.Real) u,true)
theorem Zq4 (most:Int) (L:TB) (c:Za) (edge:Int) (hides:List Zp) (hr:Zu c.Real) (hd:Zu c.Delivered) (hl:hides.length≤1000000000000) (h0:0≤(candB hides c.Real).x3.Lo) (h1:(candB hides c.Real).x3.Hi≤65535) :
  Zbt most L c edge hides=some (dlv L c edge hides):=by
 unfold Zbt dlv
 have hdp:IntKind.wrap .u32 c.Delivered.SrcPort=c.Delivered.SrcPort:=by
  obtain⟨_,_,_,h,_⟩:=hd
  unfold Zcq at h
  exact wu32 (by omega) (by omega)
 rw [Zk0 hr hl,Zos hr hl]
 simp only [Option.bind_some,Zip hd,Znc,hdp]
 have tail:allp L (fun l43=>(mfold (Zaj c) l43 ([]:(List (Zc × Bool)))).bind fun(o41:Empty ⊕ (List (Zc × Bool)))=>match o41 with
  | .inl r45=>(by cases r45)
  | .inr v34=>
    (Zaa c (mH hides c.Real) (candB hides c.Real) v34 fuel ({ c.Real with Src:=(candB hides c.Real).x0.Lo }:Zc) (candB hides c.Real).x3.Lo).bind fun(o75:(Zc ⊕ (Zc × Bool)))=>
    match o75 with
    | .inl _=>some ((Zc.mk (0:Int) (0:Int) (0:Int) (0:Int) (0:Int)),false)
    | .inr r88=>some r88)=some (match srch (fun v=>!(usedB L c.Real (hdrB c.Real (candB hides c.Real) v)) && allowB c.Real (decide (mH hides c.Real ≥ 0)) v) ((candB hides c.Real).x3.Hi + 1 - (candB hides c.Real).x3.Lo).toNat (candB hides c.Real).x3.Lo with
   | none=>(zH,false)
   | some u=>(hdrB c.Real (candB hides c.Real) u,true)):=by
  refine Ziq fun l' hp=>?_
  obtain⟨M',g1,g2⟩:=Zk1 c l' []
  rw [g1]
  simp only [Option.bind_some]
  obtain⟨o,o1,o2⟩:=Zk2 c (mH hides c.Real) (candB hides c.Real) M' h1 _ fuel { c.Real with Src:=(candB hides c.Real).x0.Lo } (candB hides c.Real).x3.Lo h0 rfl (by unfold fuel; omega) ⟨c.Real.SrcPort,rfl⟩
  rw [o1]
  simp only [Option.bind_some]
  have e:(fun v=>!((mget Zg M' (hdrB c.Real (candB hides c.Real) v)).getD false) && allowB c.Real (decide (mH hides c.Real ≥ 0)) v)=fun v=>!(usedB L c.Real (hdrB c.Real (candB hides c.Real) v)) && allowB c.Real (decide (mH hides c.Real ≥ 0)) v:=by
   funext v
   rw [g2]
   have:(mget Zg ([]:List (Zc × Bool)) (hdrB c.Real (candB hides c.Real) v)).getD false=false:=rfl
   rw [this,Bool.or_false]
   unfold usedB
   rw [hp.any_eq]
  rw [e] at o2
  generalize srch (fun v=>!(usedB L c.Real (hdrB c.Real (candB hides c.Real) v)) && allowB c.Real (decide (mH hides c.Real ≥ 0)) v) ((candB hides c.Real).x3.Hi + 1 - (candB hides c.Real).x3.Lo).toNat (candB hides c.Real).x3.Lo=w at o2 ⊢
  cases w with
  | none=>obtain⟨h,rfl⟩:=o2; rfl
  | some u=>simp only at o2; subst o2; rfl
 by_cases b1:(c.To == edge)=true
 ·rw [b1]
  simp only [if_true,Option.bind_some,Bool.true_and]
  by_cases b2:cB (candB hides c.Real) c.Delivered=true
  ·rw [b2]
   simp only [if_true,Option.bind_some,Bool.true_and]
   by_cases b3:allowB c.Real (decide (mH hides c.Real ≥ 0)) c.Delivered.SrcPort=true
   ·rw [if_pos b3,if_pos b3]
   ·rw [if_neg b3,if_neg b3]; exact tail
  ·have b2:=Bool.eq_false_iff.2 b2
   rw [b2]
   simp only [Bool.false_eq_true,if_false,Option.bind_some,Bool.false_and]
   exact tail
 ·have b1:=Bool.eq_false_iff.2 b1
  rw [b1]
  simp only [Bool.false_eq_true,if_false,Option.bind_some,Bool.false_and]
  exact tail
end Go.AM
set_option maxRecDepth 100000
namespace Go.AM
open Go
structure CoK (c:Za):Prop where
 real:Zu c.Real
 del:Zu c.Delivered
 fr:c.From=-1∨0≤c.From
 to:c.To=-1∨0≤c.To
 st:c.State=1∨c.State=2∨c.State=3
structure Inv (L:TB):Prop where
 ta:TaOk L
 el:∀ x∈L,CoK x.2
 un:∀ x∈L,∀ y∈L,x.2.To ≠ -1→y.2.To ≠ -1→x.2.Delivered=y.2.Delivered→x=y
 len:L.length≤64
theorem Inv.nil:Inv []:=⟨TaOk.nil,by simp,by simp,by simp⟩
theorem Inv.filter {L:TB} (h:Inv L) (p:Zc × Za→Bool):Inv (L.filter p):=
 ⟨h.ta.filter p,fun x hx=>h.el x (List.mem_filter.1 hx).1,fun x hx y hy=>h.un x (List.mem_filter.1 hx).1 y (List.mem_filter.1 hy).1,Nat.le_trans (List.length_filter_le _ _) h.len⟩
theorem Inv.live {L:TB} (h:Inv L) (now:Int):Inv (live now L):=h.filter _
theorem Inv.sweep {L:TB} (h:Inv L) (most now:Int):Z3 most L now=some ((dead now L:Int),AM.live now L):=Zsn h.ta (by have:=h.len; omega) most now
theorem Inv.put {M:TB} (h:Inv M) {k:Zc} {c:Za} (hc:CoK c) (hr:c.Real=k) (hl:(mget Zg M k).isSome=true∨M.length<64) (hu:c.To ≠ -1→∀ y∈M,y.1 ≠ k→y.2.To ≠ -1→y.2.Delivered ≠ c.Delivered):Inv (mput Zg M k c):=by
 refine⟨h.ta.put hr,fun x hx=>?_,fun x hx y hy tx ty e=>?_,?_⟩
 ·rcases Zhq hx with rfl | ⟨hx,_⟩
  ·exact hc
  ·exact h.el x hx
 ·rcases Zhq hx with rfl | ⟨hx,nx⟩ <;> rcases Zhq hy with rfl | ⟨hy,ny⟩
  ·rfl
  ·exact absurd e.symm (hu tx y hy ny ty)
  ·exact absurd e (hu ty x hx nx tx)
  ·exact h.un x hx y hy tx ty e
 ·rw [Zsq]
  have:=h.len
  split
  ·exact this
  ·rename_i hn
   rcases hl with hl | hl
   ·exact absurd hl hn
   ·omega
theorem CoK.rfr {c:Za} (h:CoK c) (now:Int):CoK (rfr c now):=⟨h.real,h.del,h.fr,h.to,h.st⟩
def zC:Za:=⟨Zl,Zl,Zl,0,0,false,ByteArray.empty,0,0⟩
def newC (k:Zc):Za:=⟨k,Zl,Zl,-1,-1,false,ByteArray.empty,1,0⟩
theorem okzH:Zu Zl:=by
 unfold Zu Zc9 ok_u8 Zcq Zl
 decide
theorem CoK.new {k:Zc} (h:Zu k):CoK (newC k):=⟨h,okzH,.inl rfl,.inl rfl,.inl rfl⟩
def entP (sel:Za→Int) (most:Int) (M:TB) (real:Zc) (opens:Bool):Za × Int:=
 match mget Zg M real with
 | some c=>if (!opens && (sel c == -1))=true then (zC,16) else (c,0)
 | none=>if opens=false then (zC,16) else if (M.length:Int) ≥ most then (zC,9) else (newC real,0)
theorem Zr1 (most:Int) (M:TB) (real:Zc) (opens:Bool):Zab most M real opens=some (entP (·.To) most M real opens):=by
 unfold Zab Zci entP
 cases hg:mget Zg M real with
 | none=>
  cases opens
  ·rfl
  ·simp only [Option.bind_some,Bool.not_true,Bool.false_eq_true,if_false,Option.isSome_none]
   by_cases h:(M.length:Int) ≥ most
   ·simp only [h,decide_true,if_true]; rfl
   ·simp only [h,decide_false,Bool.false_eq_true,if_false]; rfl
 | some c=>
  simp only [Option.bind_some,Option.isSome_some,Option.getD_some,Bool.not_true,Bool.false_eq_true,if_false,if_true]
  cases opens
  ·cases ht:(c.To == -1) with
   | true=>
    have:(c.To != -1)=false:=by rw [bne,ht]; rfl
    simp only [this,Bool.not_false,Bool.not_true,if_true,Option.bind_some,Bool.and_self]; rfl
   | false=>
    have:(c.To != -1)=true:=by rw [bne,ht]; rfl
    simp only [this,Bool.not_false,Bool.not_true,if_true,Option.bind_some,Bool.and_false,Bool.false_eq_true,if_false]
  ·simp only [Bool.not_true,Bool.false_eq_true,if_false,Option.bind_some,Bool.false_and]
theorem Zr2 (most:Int) (M:TB) (real:Zc) (opens:Bool):Z5 most M real opens=some (entP (·.From) most M real opens):=by
 unfold Z5 Zca entP
 cases hg:mget Zg M real with
 | none=>
  cases opens
  ·rfl
  ·simp only [Option.bind_some,Bool.not_true,Bool.false_eq_true,if_false,Option.isSome_none]
   by_cases h:(M.length:Int) ≥ most
   ·simp only [h,decide_true,if_true]; rfl
   ·simp only [h,decide_false,Bool.false_eq_true,if_false]; rfl
 | some c=>
  simp only [Option.bind_some,Option.isSome_some,Option.getD_some,Bool.not_true,Bool.false_eq_true,if_false,if_true]
  cases opens
  ·cases ht:(c.From == -1) with
   | true=>
    have:(c.From != -1)=false:=by rw [bne,ht]; rfl
    simp only [this,Bool.not_false,Bool.not_true,if_true,Option.bind_some,Bool.and_self]; rfl
   | false=>
    have:(c.From != -1)=true:=by rw [bne,ht]; rfl
    simp only [this,Bool.not_false,Bool.not_true,if_true,Option.bind_some,Bool.and_false,Bool.false_eq_true,if_false]
  ·simp only [Bool.not_true,Bool.false_eq_true,if_false,Option.bind_some,Bool.false_and]
theorem Zf9 {sel:Za→Int} {most:Int} {M:TB} (hM:Inv M) (hm:most≤64) {real:Zc} (hr:Zu real) {opens:Bool} (h:(entP sel most M real opens).2=0) :
  CoK (entP sel most M real opens).1∧(entP sel most M real opens).1.Real=real∧(((real,(entP sel most M real opens).1)∈M∧(mget Zg M real).isSome=true)∨((entP sel most M real opens).1=newC real∧M.length<64)):=by
 unfold entP at h ⊢
 cases hg:mget Zg M real with
 | none=>
  rw [hg] at h
  simp only at h ⊢
  by_cases h1:opens=false
  ·rw [if_pos h1] at h; cases h
  ·rw [if_neg h1] at h ⊢
   by_cases h2:(M.length:Int) ≥ most
   ·rw [if_pos h2] at h; cases h
   ·rw [if_neg h2]
    exact⟨CoK.new hr,rfl,.inr ⟨rfl,by omega⟩⟩
 | some c=>
  rw [hg] at h
  simp only at h ⊢
  have hmem:=Zdv hg
  by_cases h1:(!opens && (sel c == -1))=true
  ·rw [if_pos h1] at h; cases h
  ·rw [if_neg h1]
   exact⟨hM.el _ hmem,hM.ta.real _ hmem,.inl ⟨hmem,by simp⟩⟩
theorem Zoj {hides:List Zp} (ho:∀ m∈hides,Zbg m) {real:Zc} (hr:Zu real):0≤(candB hides real).x3.Lo∧(candB hides real).x3.Hi≤65535∧Zc9 (candB hides real).x0.Lo:=by
 obtain⟨r1,_,_,r4,_⟩:=hr
 unfold Zcq at r4
 have base:0≤(ofB (hv real)).x3.Lo∧(ofB (hv real)).x3.Hi≤65535∧Zc9 (ofB (hv real)).x0.Lo:=⟨by show 0≤real.SrcPort; omega,by show real.SrcPort≤65535; omega,r1⟩
 unfold candB
 by_cases hn:mH hides real<0
 ·rw [if_pos hn]; exact base
 ·rw [if_neg hn]
  obtain⟨j,m,h1,h2,h3,h4⟩:=Zi4 hn
  rw [h2,Int.toNat_natCast,h1]
  simp only
  obtain⟨_,a2,⟨a3,a4,_⟩,_⟩:=ho m (List.mem_of_getElem? h1)
  have hv':=h3
  unfold vH at hv'
  simp only [Bool.and_eq_true,decide_eq_true_eq] at hv'
  have e:hdB m real=tgtB m (ofB (hv real)):=by unfold hdB; rw [if_pos (by rw [h3,h4]; rfl)]
  rw [e]
  unfold Zc9 at a3
  split
  ·exact⟨a3.1,hv'.2,a2⟩
  ·exact⟨Int.le_refl 0,(by decide:(0:Int)≤65535),a2⟩
theorem Ztf {hides:List Zp} (ho:∀ m∈hides,Zbg m) {real:Zc} (hr:Zu real) {v:Int} (h0:(candB hides real).x3.Lo≤v) (h1:v≤(candB hides real).x3.Hi):Zu (hdrB real (candB hides real) v):=by
 obtain⟨b1,b2,b3⟩:=Zoj ho hr
 obtain⟨_,r2,r3,_,r5,r6⟩:=hr
 exact⟨b3,r2,r3,by unfold Zcq; show 0≤v∧v<65536; omega,r5,r6⟩
def egr (most:Int) (L:TB) (edge:Int) (real:Zc) (cls:ByteArray) (hides:List Zp) (opens:Bool) (now:Int):Zc × Int × TB:=
 if (decide (edge<0) || !(vHs hides))=true then (zH,1,live now L) else
 if (entP (·.To) most (live now L) real opens).2 ≠ 0 then (zH,(entP (·.To) most (live now L) real opens).2,live now L) else
 if (dlv (live now L) (entP (·.To) most (live now L) real opens).1 edge hides).2=false then (zH,9,live now L) else
 ((dlv (live now L) (entP (·.To) most (live now L) real opens).1 edge hides).1,0,mput Zg (live now L) (entP (·.To) most (live now L) real opens).1.Real
  (rfr { (entP (·.To) most (live now L) real opens).1 with To:=edge,Delivered:=(dlv (live now L) (entP (·.To) most (live now L) real opens).1 edge hides).1,Class:=cls } now))
theorem Zr3 {L:TB} (hL:Inv L) {most:Int} (hm:most≤64) (edge:Int) {real:Zc} (hr:Zu real) (cls:ByteArray) {hides:List Zp} (ho:∀ m∈hides,Zbg m) (hl:hides.length≤1000000000000) (opens:Bool) {now:Int} (hn:Zcl now) :
  Zby most L edge real cls hides opens now=some (egr most L edge real cls hides opens now):=by
 unfold Zby egr
 rw [hL.sweep]
 simp only [Option.bind_some,Zor hl]
 by_cases h1:edge<0
 ·simp only [h1,decide_true,if_true,Option.bind_some,Bool.true_or]; rfl
 ·simp only [h1,decide_false,Bool.false_eq_true,if_false,Option.bind_some,Bool.false_or]
  cases hv:vHs hides with
  | false=>simp only [Bool.not_false,if_true]; rfl
  | true=>
   simp only [Bool.not_true,Bool.false_eq_true,if_false,Zr1,Option.bind_some]
   have hM:=hL.live now
   by_cases he:(entP (·.To) most (live now L) real opens).2=0
   ·obtain⟨c1,c2,_⟩:=Zf9 hM hm hr he
    simp only [he,bne_self_eq_false,Bool.false_eq_true,if_false,ne_eq,not_true_eq_false]
    obtain⟨b1,b2,_⟩:=Zoj ho c1.real
    rw [Zq4 most (live now L) _ edge hides c1.real c1.del hl b1 b2]
    simp only [Option.bind_some]
    cases hd:(dlv (live now L) (entP (·.To) most (live now L) real opens).1 edge hides).2 with
    | false=>simp only [Bool.not_false,if_true]; rfl
    | true=>
     simp only [Bool.not_true,Bool.false_eq_true,if_false]
     rw [Zg6 _ _ _ hn]
     rfl
   ·rw [if_pos (by simpa using he),if_pos he]; rfl
theorem Zsr {M:TB} {c:Za} {edge:Int} {hides:List Zp} (h:(dlv M c edge hides).2=true) :
  ((dlv M c edge hides).1=c.Delivered∧c.To=edge∧cB (candB hides c.Real) c.Delivered=true∧allowB c.Real (decide (mH hides c.Real ≥ 0)) c.Delivered.SrcPort=true) ∨
  ∃ u,(dlv M c edge hides).1=hdrB c.Real (candB hides c.Real) u∧usedB M c.Real (hdrB c.Real (candB hides c.Real) u)=false∧(candB hides c.Real).x3.Lo≤u∧u≤(candB hides c.Real).x3.Hi:=by
 unfold dlv at h ⊢
 by_cases hc:(c.To == edge && cB (candB hides c.Real) c.Delivered && allowB c.Real (decide (mH hides c.Real ≥ 0)) c.Delivered.SrcPort)=true
 ·rw [if_pos hc]
  simp only [Bool.and_eq_true,beq_iff_eq] at hc
  exact .inl ⟨rfl,hc.1.1,hc.1.2,hc.2⟩
 ·rw [if_neg hc] at h ⊢
  right
  split at h
  ·cases h
  ·rename_i u hu
   obtain⟨s1,s2,s3⟩:=Zoi hu
   simp only [Bool.and_eq_true,Bool.not_eq_true'] at s1
   exact⟨u,rfl,s1.1,s2,by omega⟩
theorem Zp8 {M:TB} {real h:Zc} (hu:usedB M real h=false):∀ y∈M,y.1 ≠ real→y.2.To ≠ -1→y.2.Delivered ≠ h:=fun y hy n1 n2 e=>by
 unfold usedB at hu
 rw [← Bool.not_eq_true,List.any_eq_true] at hu
 refine hu ⟨y,hy,?_⟩
 simp only [Bool.and_eq_true,Bool.not_eq_true',eqHf,bne_iff_ne,eqH]
 exact⟨⟨n1,n2⟩,e⟩
theorem Ztg {L:TB} (hL:Inv L) {most:Int} (hm:most≤64) (edge:Int) {real:Zc} (hr:Zu real) (cls:ByteArray) {hides:List Zp} (ho:∀ m∈hides,Zbg m) (opens:Bool) (now:Int):Inv (egr most L edge real cls hides opens now).2.2:=by
 have hM:=hL.live now
 unfold egr
 by_cases h1:(decide (edge<0) || !(vHs hides))=true
 ·rw [if_pos h1]; exact hM
 ·rw [if_neg h1]
  have he:0≤edge:=by
   simp only [Bool.or_eq_true,decide_eq_true_eq,not_or] at h1
   omega
  by_cases h2:(entP (·.To) most (live now L) real opens).2 ≠ 0
  ·rw [if_pos h2]; exact hM
  ·rw [if_neg h2]
   have h2:=Classical.not_not.1 h2
   obtain⟨c1,c2,c3⟩:=Zf9 hM hm hr h2
   generalize entP (·.To) most (live now L) real opens=e at c1 c2 c3 h2 ⊢
   by_cases h3:(dlv (live now L) e.1 edge hides).2=false
   ·rw [if_pos h3]; exact hM
   ·rw [if_neg h3]
    have h3:=(Bool.not_eq_false _).mp h3
    have hd:=Zsr h3
    generalize hdd:dlv (live now L) e.1 edge hides=d at hd h3 ⊢
    have okd:Zu d.1:=by
     rcases hd with ⟨q,_⟩ | ⟨u,q,_,q2,q3⟩
     ·rw [q]; exact c1.del
     ·rw [q]; exact Ztf ho c1.real q2 q3
    rw [c2]
    refine hM.put (CoK.rfr (show CoK { e.1 with To:=edge,Delivered:=d.1,Class:=cls } from ⟨c1.real,okd,c1.fr,.inr he,c1.st⟩) now) c2 (c3.imp (·.2) (·.2)) fun _ y hy n1 n2=>?_
    show y.2.Delivered ≠ d.1
    rcases hd with ⟨q1,q2,_⟩ | ⟨u,q1,q2,_⟩
    ·rcases c3 with ⟨c3,_⟩ | ⟨c3,_⟩
     ·rw [q1]
      intro eq
      have:=hM.un y hy _ c3 n2 (by show e.1.To ≠ -1; omega) eq
      exact n1 (by rw [this])
     ·rw [c3] at q2
      have:(newC real).To=-1:=rfl
      omega
    ·rw [q1,← c2] at *
     exact Zp8 q2 y hy (by rw [c2]; exact n1) n2
end Go.AM
set_option maxRecDepth 100000
namespace Go.AM
open Go
open Go.Sort (SWO)
open Go.Proofs (ltOf)
def rev (h:Zc):Zc:=⟨h.Dst,h.Src,h.Proto,h.DstPort,h.SrcPort⟩
theorem Zth (h:Zc):Zeo h=some (rev h):=rfl
theorem Zqr (h:Zc):Zbi h=some (rev h):=rfl
def dP (edge:Int) (want:Zc) (x:Zc × Za):Bool:=(x.2.To == edge) && Zg x.2.Delivered want
theorem Zpo (edge:Int) (r1:Int × TB) (want:Zc):∀ l:TB,mfold (Zao edge r1 want) l ()=some (match l.find? (dP edge want) with
  | some x=>.inl (x.2,true,r1.2)
  | none=>.inr ())
 | []=>rfl
 | y :: l=>by
  unfold mfold
  rw [Zao,List.find?_cons]
  simp only [Option.bind_some]
  by_cases h:((y.2.To == edge) && Zg y.2.Delivered want)=true
  ·rw [if_pos h,show dP edge want y=true from h]; rfl
  ·rw [if_neg h,show dP edge want y=false from Bool.eq_false_iff.2 h]
   exact Zpo edge r1 want l
theorem Inv.uniqD {L:TB} (h:Inv L) {edge:Int} (he:0≤edge) (want:Zc):∀ x∈L,∀ y∈L,dP edge want x=true→dP edge want y=true→x=y:=fun x hx y hy h1 h2=>by
 unfold dP at h1 h2
 simp only [Bool.and_eq_true,beq_iff_eq,eqH] at h1 h2
 exact h.un x hx y hy (by omega) (by omega) (by rw [h1.2,h2.2])
def fnd (o:Option (Zc × Za)):Za × Bool:=match o with
 | some x=>(x.2,true)
 | none=>(zC,false)
theorem Zpp {L:TB} (hL:Inv L) (most:Int) {edge:Int} (he:0≤edge) (h:Zc) (now:Int):Z8 most L edge h now=some ((fnd ((live now L).find? (dP edge (rev h)))).1,(fnd ((live now L).find? (dP edge (rev h)))).2,live now L):=by
 unfold Z8
 rw [if_neg (by simpa using he),hL.sweep]
 simp only [Option.bind_some,Zth]
 refine Ziq fun l' hp=>?_
 rw [Zpo,Zod hp fun x hx y hy=>(hL.live now).uniqD he (rev h) x (hp.mem_iff.1 hx) y (hp.mem_iff.1 hy)]
 simp only [Option.bind_some]
 cases (live now L).find? (dP edge (rev h)) with
 | none=>rfl
 | some x=>rfl
theorem Zot (most:Int) (L:TB) {edge:Int} (he:edge<0) (h:Zc) (now:Int):Z8 most L edge h now=some (zC,false,L):=by
 unfold Z8
 rw [if_pos (by simpa using he)]; rfl
def lx {α:Type} (f:α→Int) (lt:α→α→Bool) (x y:α):Bool:=decide (f x<f y) || (decide (f x=f y) && lt x y)
theorem swo_lx {α:Type} (f:α→Int) {lt:α→α→Bool} (h:SWO lt):SWO (lx f lt) where
 irrefl x:=by simp [lx,h.irrefl]
 trans x y z h1 h2:=by
  unfold lx at *
  simp only [Bool.or_eq_true,Bool.and_eq_true,decide_eq_true_eq] at *
  rcases h1 with h1 | ⟨h1,k1⟩ <;> rcases h2 with h2 | ⟨h2,k2⟩
  ·left; omega
  ·left; omega
  ·left; omega
  ·right; exact⟨by omega,h.trans _ _ _ k1 k2⟩
 ntrans x y z h1 h2:=by
  unfold lx at *
  simp only [Bool.or_eq_false_iff,Bool.and_eq_false_iff,decide_eq_false_iff_not] at *
  refine⟨by omega,?_⟩
  by_cases e:f x=f z
  ·have e1:f x=f y:=by omega
   have e2:f y=f z:=by omega
   right
   exact h.ntrans _ _ _ (h1.2.resolve_left (fun k=>k e1)) (h2.2.resolve_left (fun k=>k e2))
  ·exact .inl e
theorem Zss {α:Type}:SWO (fun _ _:α=>false):=⟨fun _=>rfl,fun _ _ _ h=>(by cases h),fun _ _ _ _ _=>rfl⟩
def ltH:Zc→Zc→Bool:=lx (·.Src) (lx (·.Dst) (lx (·.Proto) (lx (·.SrcPort) (lx (·.DstPort) fun _ _=>false))))
theorem swoH:SWO ltH:=swo_lx _ (swo_lx _ (swo_lx _ (swo_lx _ (swo_lx _ Zss))))
theorem Zok {a b:Zc} (h1:ltH a b=false) (h2:ltH b a=false):a=b:=by
 unfold ltH lx at h1 h2
 simp only [Bool.or_eq_false_iff,Bool.and_eq_false_iff,decide_eq_false_iff_not] at h1 h2
 obtain⟨a1,h1⟩:=h1
 obtain⟨b1,h2⟩:=h2
 have e1:a.Src=b.Src:=by omega
 obtain⟨a2,h1⟩:=h1.resolve_left (fun k=>k e1)
 obtain⟨b2,h2⟩:=h2.resolve_left (fun k=>k e1.symm)
 have e2:a.Dst=b.Dst:=by omega
 obtain⟨a3,h1⟩:=h1.resolve_left (fun k=>k e2)
 obtain⟨b3,h2⟩:=h2.resolve_left (fun k=>k e2.symm)
 have e3:a.Proto=b.Proto:=by omega
 obtain⟨a4,h1⟩:=h1.resolve_left (fun k=>k e3)
 obtain⟨b4,h2⟩:=h2.resolve_left (fun k=>k e3.symm)
 have e4:a.SrcPort=b.SrcPort:=by omega
 obtain⟨a5,h1⟩:=h1.resolve_left (fun k=>k e4)
 obtain⟨b5,h2⟩:=h2.resolve_left (fun k=>k e4.symm)
 have e5:a.DstPort=b.DstPort:=by omega
 cases a; cases b
 simp only at e1 e2 e3 e4 e5
 subst e1 e2 e3 e4 e5
 rfl
def c3 (a b:Int):Int:=if a<b then -1 else if b<a then 1 else 0
theorem Zpq (a b:Int):Zb3 a b=some (c3 a b):=by
 unfold Zb3 Zdd c3
 simp only [bne_self_eq_false,Option.bind_some,Bool.false_eq_true,if_false,decide_eq_true_eq,gt_iff_lt]
 repeat' split
 all_goals rfl
theorem Zti (a b:Int):Zc1 a b=some (c3 a b):=by
 unfold Zc1 Zdo c3
 simp only [bne_self_eq_false,Option.bind_some,Bool.false_eq_true,if_false,decide_eq_true_eq,gt_iff_lt]
 repeat' split
 all_goals rfl
theorem Zpr (a b:Int):Zb4 a b=some (c3 a b):=by
 unfold Zb4 Zde c3
 simp only [bne_self_eq_false,Option.bind_some,Bool.false_eq_true,if_false,decide_eq_true_eq,gt_iff_lt]
 repeat' split
 all_goals rfl
def orV:List Int→Int
 | []=>0
 | x :: l=>if x ≠ 0 then x else orV l
def gOr (_:Nat) (x:Int):Option Int:=if x ≠ 0 then some x else none
theorem Zps:∀(l:List Int) (i:Nat),(match findI gOr i l with | some r=>r | none=>0)=orV l
 | [],_=>rfl
 | x :: l,i=>by
  unfold findI gOr orV
  by_cases h:x ≠ 0
  ·rw [if_pos h,if_pos h]
  ·rw [if_neg h,if_neg h]; exact Zps l (i + 1)
theorem Or_eq (l:List Int) (hl:l.length≤1000000000000):Zez l=some (orV l):=by
 unfold Zez
 rw [Zdf (L:=Zcw l) l gOr hl (fun n i hi=>by
  rw [Zcw]
  simp only [show ((i:Int)<(l.length:Int)) from by omega,decide_true,if_true,Zbm hi,Option.bind_some,wsucc (by omega:i<1000000000001)]
  unfold gOr
  by_cases h:l[i]=0
  ·rw [if_neg (by simp [h]),if_neg (by simp [h])]
  ·rw [if_pos (by simpa using h),if_pos h]) (fun n=>by rw [Zcw]; simp)]
 have:=Zps l 0
 cases hf:findI gOr 0 l with
 | none=>rw [hf] at this; rw [← this]; rfl
 | some r=>rw [hf] at this; rw [← this]; rfl
theorem orV_c3 (a b:Int) (l:List Int):decide (orV (c3 a b :: l)<0)=(decide (a<b) || (decide (a=b) && decide (orV l<0))):=by
 rw [orV]
 unfold c3
 by_cases h1:a<b
 ·simp [h1]
 ·by_cases h2:b<a
  ·have:¬ a=b:=by omega
   simp [h1,h2,this]
  ·have:a=b:=by omega
   simp [this]
def cmpL (a b:Zc):Int:=orV [c3 a.Src b.Src,c3 a.Dst b.Dst,c3 a.Proto b.Proto,c3 a.SrcPort b.SrcPort,c3 a.DstPort b.DstPort]
theorem Zq5 (a b:Zc):Zc2 a b=some (cmpL a b):=by
 unfold Zc2 cmpL
 rw [Zpq,Zpq,Zti,Zpr,Zpr]
 simp only [Option.bind_some]
 rw [Or_eq _ (by simp)]; rfl
theorem Zqs (a b:Zc):decide (cmpL a b<0)=ltH a b:=by
 unfold cmpL ltH lx
 rw [orV_c3,orV_c3,orV_c3,orV_c3,orV_c3]
 rfl
theorem Zpt (a b:Za):Zae a b=some (cmpL a.Real b.Real):=by
 unfold Zae
 rw [Zq5]; rfl
theorem ltList:ltOf (cmpOf Zae)=fun a b:Za=>ltH a.Real b.Real:=by
 funext a b
 unfold ltOf cmpOf
 rw [Zpt,Option.getD_some,Zqs]
theorem swoL:SWO (ltOf (cmpOf Zae)):=by
 rw [ltList]
 exact⟨fun x=>swoH.irrefl _,fun x y z=>swoH.trans _ _ _,fun x y z=>swoH.ntrans _ _ _⟩
theorem Zp9 {R:List Za}:∀ {S:List Za},S.Perm R→S.Pairwise (fun a b=>ltH a.Real b.Real=true)→R.Pairwise (fun a b=>ltH a.Real b.Real=true)→S=R:=by
 induction R with
 | nil=>intro S hp _ _; exact hp.eq_nil
 | cons r R ih=>
  intro S hp hs hr
  cases S with
  | nil=>exact absurd hp.symm.eq_nil (by simp)
  | cons s S=>
   rw [List.pairwise_cons] at hs hr
   have e:s=r:=by
    rcases List.mem_cons.1 (hp.mem_iff.1 List.mem_cons_self) with h | h
    ·exact h
    ·rcases List.mem_cons.1 (hp.mem_iff.2 (List.mem_cons_self (a:=r))) with h2 | h2
     ·exact h2.symm
     ·have a1:=hr.1 s h
      have a2:=hs.1 r h2
      have:=swoH.trans _ _ _ a1 a2
      rw [swoH.irrefl] at this; cases this
   subst e
   rw [ih ((List.perm_cons _).1 hp) hs.2 hr.2]
theorem Zr4 {S:List Za} (h1:S.Pairwise (fun a b=>ltH b.Real a.Real=false)) (h2:(S.map (·.Real)).Nodup):S.Pairwise (fun a b=>ltH a.Real b.Real=true):=by
 induction S with
 | nil=>exact .nil
 | cons a S ih=>
  rw [List.map_cons,List.nodup_cons] at h2
  rw [List.pairwise_cons] at h1 ⊢
  refine⟨fun b hb=>?_,ih h1.2 h2.2⟩
  cases hlt:ltH a.Real b.Real with
  | true=>rfl
  | false=>
   exact absurd (List.mem_map.2 ⟨b,hb,(Zok hlt (h1.1 b hb)).symm⟩) h2.1
theorem TaOk.reals {M:TB} (h:TaOk M):(M.map (·.2)).map (·.Real)=M.map (·.1):=by
 rw [List.map_map]
 exact List.map_congr_left fun x hx=>h.real x hx
theorem Znd:∀(l:TB) (out:List Za),out.length + l.length≤1000000→mfold Zbd l out=some (.inr (out++l.map (·.2)))
 | [],out,_=>by simp [mfold]
 | y :: l,out,h=>by
  rw [List.length_cons] at h
  unfold mfold
  rw [Zbd,if_pos (by unfold lim; simp only [List.length_singleton]; omega)]
  simp only [Option.bind_some]
  rw [Znd l _ (by rw [List.length_append,List.length_singleton]; omega),List.append_assoc]
  rfl
theorem Znt {M:TB} (h:TaOk M) (hl:M.length≤64):∃ S,sortFn Zae (M.map (·.2))=some S∧S.Perm (M.map (·.2))∧S.Pairwise (fun a b=>ltH a.Real b.Real=true):=by
 have hs:∃ S,sortFn Zae (M.map (·.2))=some S:=by
  unfold sortFn
  rw [if_pos ⟨fun x y=>by rw [Zpt]; rfl,swoL,by rw [List.length_map]; omega⟩]
  exact⟨_,rfl⟩
 obtain⟨S,hS⟩:=hs
 obtain⟨p1,p2⟩:=Zlo hS
 rw [ltList] at p2
 refine⟨S,hS,p1,Zr4 p2 ?_⟩
 rw [(p1.map _).nodup_iff,h.reals]
 exact h.nd
theorem Ztj {L:TB} (hL:Inv L) (most now:Int):∃ S,Zcg most L now=some (S,live now L)∧S.Perm ((live now L).map (·.2))∧S.Pairwise (fun a b=>ltH a.Real b.Real=true):=by
 have hM:=hL.live now
 obtain⟨S,s1,s2,s3⟩:=Znt hM.ta hM.len
 refine⟨S,?_,s2,s3⟩
 unfold Zcg
 rw [hL.sweep]
 simp only [Option.bind_some]
 refine Ziq fun l' hp=>?_
 have hl':TaOk l':=⟨(hp.map _).nodup_iff.2 hM.ta.nd,fun x hx=>hM.ta.real x (hp.mem_iff.1 hx)⟩
 rw [Znd l' [] (by have:=hM.len; rw [hp.length_eq]; simp; omega)]
 simp only [Option.bind_some,List.nil_append]
 obtain⟨S',t1,t2,t3⟩:=Znt hl' (by rw [hp.length_eq]; exact hM.len)
 rw [t1]
 simp only [Option.bind_some]
 rw [if_pos t2.length_eq]
 have:S'=S:=Zp9 (t2.trans ((hp.map _).trans s2.symm)) t3 s3
 rw [this]
theorem Ztk {L:TB} (hL:Inv L) (most:Int) (real:Zc) (now:Int):Zcf most L real now=some ((mget Zg (live now L) real).getD zC,(mget Zg (live now L) real).isSome,live now L):=by
 unfold Zcf
 rw [hL.sweep]; rfl
end Go.AM
set_option maxRecDepth 100000
namespace Go.AM
open Go
open Go.Sort (SWO)
def colB (c:Za) (edge:Int) (sent:Zc):Bool:=(c.From != -1) && ((c.From != edge) || !(Zg c.Sent sent))
def colM (M:TB) (real:Zc) (edge:Int) (sent:Zc):Bool:=match mget Zg M real with
 | some c=>colB c edge sent
 | none=>false
def ing (most:Int) (L:TB) (edge:Int) (sent real:Zc) (cls:ByteArray) (opens:Bool) (now:Int):Int × TB:=
 if edge<0 then (1,live now L) else
 if colM (live now L) real edge sent=true then (12,live now L) else
 if (entP (·.From) most (live now L) real opens).2 ≠ 0 then ((entP (·.From) most (live now L) real opens).2,live now L) else
 (0,mput Zg (live now L) (entP (·.From) most (live now L) real opens).1.Real (rfr { (entP (·.From) most (live now L) real opens).1 with From:=edge,Sent:=sent,Class:=cls } now))
theorem Zq6 {L:TB} (hL:Inv L) (most edge:Int) (sent real:Zc) (cls:ByteArray) (opens:Bool) {now:Int} (hn:Zcl now):Zbs most L edge sent real cls opens now=some (ing most L edge sent real cls opens now):=by
 unfold Zbs ing
 rw [hL.sweep]
 simp only [Option.bind_some]
 by_cases h1:edge<0
 ·simp only [h1,decide_true,if_true]
 ·simp only [h1,decide_false,Bool.false_eq_true,if_false]
  have tail:((Z5 most (live now L) real opens).bind fun(r14:(Za × Int))=>
   if (r14.2 != (0:Int))=true then some (r14.2,live now L) else
    (Zan most (live now L) ({ ({ ({ r14.1 with From:=edge }:Za) with Sent:=sent }:Za) with Class:=cls }:Za) now).bind fun(r16:TB)=>some ((0:Int),r16)) =
   some (if (entP (·.From) most (live now L) real opens).2 ≠ 0 then ((entP (·.From) most (live now L) real opens).2,live now L) else
    (0,mput Zg (live now L) (entP (·.From) most (live now L) real opens).1.Real (rfr { (entP (·.From) most (live now L) real opens).1 with From:=edge,Sent:=sent,Class:=cls } now))):=by
   rw [Zr2]
   simp only [Option.bind_some]
   by_cases he:(entP (·.From) most (live now L) real opens).2=0
   ·rw [if_neg (by simp [he]),if_neg (by simp [he]),Zg6 _ _ _ hn]; rfl
   ·rw [if_pos (by simpa using he),if_pos he]
  unfold colM
  cases hg:mget Zg (live now L) real with
  | none=>
   simp only [Option.isSome_none,Option.bind_some,Bool.false_and,Bool.false_eq_true,if_false]
   exact tail
  | some c=>
   simp only [Option.isSome_some,Option.getD_some,Option.bind_some,Bool.true_and]
   unfold colB
   by_cases hf:(c.From != -1)=true
   ·rw [if_pos hf]
    simp only [hf,Option.bind_some,Bool.true_and]
    by_cases hc:((c.From != edge) || !(Zg c.Sent sent))=true
    ·rw [if_pos hc,if_pos hc]
    ·rw [if_neg hc,if_neg hc]; exact tail
   ·rw [if_neg hf]
    have hf':=Bool.eq_false_iff.2 hf
    simp only [hf',Option.bind_some,Bool.false_and,Bool.false_eq_true,if_false]
    exact tail
theorem Ztl {L:TB} (hL:Inv L) {most:Int} (hm:most≤64) (edge:Int) (sent:Zc) {real:Zc} (hr:Zu real) (cls:ByteArray) (opens:Bool) (now:Int):Inv (ing most L edge sent real cls opens now).2:=by
 have hM:=hL.live now
 unfold ing
 split
 ·exact hM
 ·rename_i h1
  split
  ·exact hM
  ·split
   ·exact hM
   ·rename_i h2
    have h2:=Classical.not_not.1 h2
    obtain⟨c1,c2,c3⟩:=Zf9 hM hm hr h2
    generalize entP (·.From) most (live now L) real opens=e at c1 c2 c3 h2 ⊢
    rw [c2]
    refine hM.put (CoK.rfr (show CoK { e.1 with From:=edge,Sent:=sent,Class:=cls } from ⟨c1.real,c1.del,.inr (by show 0≤edge; omega),c1.to,c1.st⟩) now) c2 (c3.imp (·.2) (·.2)) fun ht y hy n1 n2=>?_
    show y.2.Delivered ≠ e.1.Delivered
    rcases c3 with ⟨c3,_⟩ | ⟨c3,_⟩
    ·intro eq
     have:=hM.un y hy _ c3 n2 ht eq
     exact n1 (by rw [this])
    ·exact absurd (by rw [c3]; rfl) ht
theorem Zr5 (most:Int) (M:TB) (real:Zc):Za6 most M real=some (entP (·.To) most M real true):=by
 unfold Za6 entP
 cases hg:mget Zg M real with
 | none=>
  simp only [Option.isSome_none,Bool.false_eq_true,if_false,Bool.true_eq_false]
  by_cases h:(M.length:Int) ≥ most
  ·simp only [h,decide_true,if_true]; rfl
  ·simp only [h,decide_false,Bool.false_eq_true,if_false]; rfl
 | some c=>rfl
def insp (most:Int) (L:TB) (real:Zc) (cls:ByteArray) (now:Int):Int × TB:=
 if (entP (·.To) most (live now L) real true).2 ≠ 0 then ((entP (·.To) most (live now L) real true).2,live now L) else
 (0,mput Zg (live now L) (entP (·.To) most (live now L) real true).1.Real (rfr { (entP (·.To) most (live now L) real true).1 with Waypoint:=true,Class:=cls } now))
theorem Zq7 {L:TB} (hL:Inv L) (most:Int) (real:Zc) (cls:ByteArray) {now:Int} (hn:Zcl now):Zbu most L real cls now=some (insp most L real cls now):=by
 unfold Zbu insp
 rw [hL.sweep]
 simp only [Option.bind_some,Zr5]
 by_cases he:(entP (·.To) most (live now L) real true).2=0
 ·rw [if_neg (by simp [he]),if_neg (by simp [he]),Zg6 _ _ _ hn]; rfl
 ·rw [if_pos (by simpa using he),if_pos he]
theorem Zst {L:TB} (hL:Inv L) {most:Int} (hm:most≤64) {real:Zc} (hr:Zu real) (cls:ByteArray) (now:Int):Inv (insp most L real cls now).2:=by
 have hM:=hL.live now
 unfold insp
 split
 ·exact hM
 ·rename_i h2
  have h2:=Classical.not_not.1 h2
  obtain⟨c1,c2,c3⟩:=Zf9 hM hm hr h2
  generalize entP (·.To) most (live now L) real true=e at c1 c2 c3 h2 ⊢
  rw [c2]
  refine hM.put (CoK.rfr (show CoK { e.1 with Waypoint:=true,Class:=cls } from ⟨c1.real,c1.del,c1.fr,c1.to,c1.st⟩) now) c2 (c3.imp (·.2) (·.2)) fun ht y hy n1 n2=>?_
  show y.2.Delivered ≠ e.1.Delivered
  rcases c3 with ⟨c3,_⟩ | ⟨c3,_⟩
  ·intro eq
   have:=hM.un y hy _ c3 n2 ht eq
   exact n1 (by rw [this])
  ·exact absurd (by rw [c3]; rfl) ht
def nst (c:Za) (flags:Int) (reply:Bool):Za:={ c with State:=if bAnd .i64 flags 1 ≠ 0 then 3 else if reply=true∧c.State=1 then 2 else c.State }
def psd (M:TB) (real:Zc) (flags now:Int) (reply:Bool):TB:=match mget Zg M real with
 | none=>M
 | some c=>if bAnd .i64 flags 4 ≠ 0 then mdel Zg M real else mput Zg M real (rfr (nst c flags reply) now)
theorem Zol {L:TB} (hL:Inv L) (most:Int) (real:Zc) (flags:Int) {now:Int} (hn:Zcl now) (reply:Bool):Zbf most L real flags now reply=some (psd (live now L) real flags now reply):=by
 unfold Zbf psd
 rw [hL.sweep]
 simp only [Option.bind_some]
 cases hg:mget Zg (live now L) real with
 | none=>simp
 | some c=>
  have hreal:c.Real=real:=(hL.live now).ta.real _ (Zdv hg)
  simp only [Option.isSome_some,Bool.not_true,Bool.false_eq_true,if_false,Option.getD_some]
  by_cases h4:bAnd .i64 flags 4=0
  ·simp only [h4,bne_self_eq_false,Bool.false_eq_true,if_false,ne_eq,not_true_eq_false]
   unfold nst
   by_cases h1:bAnd .i64 flags 1=0
   ·simp only [h1,bne_self_eq_false,Bool.false_eq_true,if_false,ne_eq,not_true_eq_false,Option.bind_some]
    by_cases hb:reply=true∧c.State=1
    ·have hb':(reply && (c.State == 1))=true:=by simp [hb.1,hb.2]
     rw [if_pos hb',if_pos hb]
     simp only [Option.bind_some]
     rw [Zg6 _ _ _ hn]
     subst hreal
     rfl
    ·have hb':¬ (reply && (c.State == 1))=true:=by simpa using hb
     rw [if_neg hb',if_neg hb]
     simp only [Option.bind_some]
     rw [Zg6 _ _ _ hn]
     subst hreal
     rfl
   ·have h1':(bAnd .i64 flags 1 != 0)=true:=by simpa using h1
    rw [if_pos h1',if_pos h1]
    simp only [Option.bind_some]
    rw [Zg6 _ _ _ hn]
    simp only [Option.bind_some,hreal]
  ·have h4':(bAnd .i64 flags 4 != 0)=true:=by simpa using h4
   rw [if_pos h4',if_pos h4]
   rfl
theorem Ztm {M:TB} (hM:Inv M) (real:Zc) (flags now:Int) (reply:Bool):Inv (psd M real flags now reply):=by
 unfold psd
 cases hg:mget Zg M real with
 | none=>exact hM
 | some c=>
  have hm:=Zdv hg
  have hreal:c.Real=real:=hM.ta.real _ hm
  have hc:=hM.el _ hm
  simp only
  split
  ·exact hM.filter _
  ·refine hM.put (CoK.rfr (show CoK (nst c flags reply) from ⟨hc.real,hc.del,hc.fr,hc.to,?_⟩) now) hreal (.inl (by rw [hg]; rfl)) fun ht y hy n1 n2=>?_
   ·unfold nst
    simp only
    split
    ·exact .inr (.inr rfl)
    ·split
     ·exact .inr (.inl rfl)
     ·exact hc.st
   ·show y.2.Delivered ≠ c.Delivered
    intro eq
    have:=hM.un y hy _ hm n2 ht eq
    exact n1 (by rw [this])
abbrev CL:=List Za
def Srt (R:CL):Prop:=R.Pairwise fun a b=>ltH a.Real b.Real=true
theorem Znu:∀ {S R:CL},Srt S→Srt R→(∀ c,c∈S ↔ c∈R)→S=R
 | [],[],_,_,_=>rfl
 | [],r :: R,_,_,h=>absurd ((h r).2 List.mem_cons_self) (by simp)
 | s :: S,[],_,_,h=>absurd ((h s).1 List.mem_cons_self) (by simp)
 | s :: S,r :: R,hs,hr,h=>by
  have hs:=List.pairwise_cons.1 hs
  have hr:=List.pairwise_cons.1 hr
  have irr:∀ {a b:Za},ltH a.Real b.Real=true→ltH b.Real a.Real=true→False:=fun h1 h2=>by
   have:=swoH.trans _ _ _ h1 h2
   rw [swoH.irrefl] at this; cases this
  have e:s=r:=by
   rcases List.mem_cons.1 ((h s).1 List.mem_cons_self) with h1 | h1
   ·exact h1
   ·rcases List.mem_cons.1 ((h r).2 List.mem_cons_self) with h2 | h2
    ·exact h2.symm
    ·exact(irr (hr.1 s h1) (hs.1 r h2)).elim
  subst e
  refine congrArg _ (Znu hs.2 hr.2 fun c=>?_)
  constructor
  ·intro hc
   rcases List.mem_cons.1 ((h c).1 (List.mem_cons_of_mem _ hc)) with h1 | h1
   ·subst h1
    have:=hs.1 c hc
    rw [swoH.irrefl] at this; cases this
   ·exact h1
  ·intro hc
   rcases List.mem_cons.1 ((h c).2 (List.mem_cons_of_mem _ hc)) with h1 | h1
   ·subst h1
    have:=hr.1 c hc
    rw [swoH.irrefl] at this; cases this
   ·exact h1
structure Rel (L:TB) (R:CL):Prop where
 inv:Inv L
 mem:∀ c,c∈R ↔ (c.Real,c)∈L
 srt:Srt R
theorem Rel.nil:Rel [] []:=⟨Inv.nil,by simp,.nil⟩
theorem Zpu {L:TB} (h:TaOk L) (c:Za):c∈L.map (·.2) ↔ (c.Real,c)∈L:=by
 rw [List.mem_map]
 constructor
 ·rintro⟨x,hx,rfl⟩
  rw [h.real x hx]; exact hx
 ·intro hc
  exact⟨_,hc,rfl⟩
theorem Rel.perm {L:TB} {R:CL} (h:Rel L R):R.Perm (L.map (·.2)):=by
 obtain⟨S,_,s2,s3⟩:=Znt h.inv.ta h.inv.len
 have:S=R:=Znu s3 h.srt fun c=>by rw [s2.mem_iff,Zpu h.inv.ta,h.mem]
 rw [← this]; exact s2
theorem Rel.len {L:TB} {R:CL} (h:Rel L R):R.length=L.length:=by rw [h.perm.length_eq,List.length_map]
theorem Rel.list {L:TB} {R:CL} (h:Rel L R) {S:CL} (h1:S.Perm (L.map (·.2))) (h2:Srt S):S=R:=Znu h2 h.srt fun c=>by rw [h1.mem_iff,Zpu h.inv.ta,h.mem]
theorem Srt.filter {R:CL} (h:Srt R) (p:Za→Bool):Srt (R.filter p):=List.Pairwise.sublist List.filter_sublist h
def liveR (now:Int) (R:CL):CL:=R.filter fun c=>decide (now<c.Expires)
theorem Rel.live {L:TB} {R:CL} (h:Rel L R) (now:Int):Rel (live now L) (liveR now R):=⟨h.inv.live now,fun c=>by
  unfold AM.live liveR
  rw [List.mem_filter,List.mem_filter,h.mem],h.srt.filter _⟩
def rget (R:CL) (k:Zc):Option Za:=R.find? fun c=>Zg c.Real k
theorem Rel.get {L:TB} {R:CL} (h:Rel L R) (k:Zc):mget Zg L k=rget R k:=by
 have hu:∀ x∈R,∀ y∈R,Zg x.Real k=true→Zg y.Real k=true→x=y:=fun x hx y hy h1 h2=>by
  rw [eqH] at h1 h2
  have:=h.inv.ta.uniq ((h.mem x).1 hx) ((h.mem y).1 hy) (by show x.Real=y.Real; rw [h1,h2])
  exact congrArg Prod.snd this
 cases hg:mget Zg L k with
 | some c=>
  have hm:=Zdv hg
  have hr:c.Real=k:=h.inv.ta.real _ hm
  have hc:c∈R:=(h.mem c).2 (by rw [hr]; exact hm)
  unfold rget
  cases hf:R.find? (fun c=>Zg c.Real k) with
  | none=>rw [List.find?_eq_none] at hf; exact absurd ((eqH _ _).2 hr) (hf c hc)
  | some y=>rw [hu y (List.mem_of_find?_eq_some hf) c hc (List.find?_some (p:=fun c:Za=>Zg c.Real k) hf) ((eqH _ _).2 hr)]
 | none=>
  unfold rget
  symm
  rw [List.find?_eq_none]
  intro c hc he
  rw [eqH] at he
  have:=Zso h.inv.ta ((h.mem c).1 hc)
  simp only [he,hg] at this
  cases this
theorem Rel.del {L:TB} {R:CL} (h:Rel L R) (k:Zc):Rel (mdel Zg L k) (R.filter fun c=>!(Zg c.Real k)):=⟨h.inv.filter _,fun c=>by
  unfold mdel
  rw [List.mem_filter,List.mem_filter,h.mem]
  show _∧(!(Zg c.Real k))=true ↔ _∧(!(Zg k c.Real))=true
  rw [eqHs],h.srt.filter _⟩
def rput (c:Za):CL→CL
 | []=>[c]
 | x :: R=>if ltH x.Real c.Real=true then x :: rput c R else if Zg x.Real c.Real=true then c :: R else c :: x :: R
theorem Zmb {c:Za}:∀ {R:CL},Srt R→∀ y,y∈rput c R ↔ y=c∨(y∈R∧y.Real ≠ c.Real)
 | [],_,y=>by simp [rput]
 | x :: R,hs,y=>by
  have hs:=List.pairwise_cons.1 hs
  unfold rput
  by_cases h1:ltH x.Real c.Real=true
  ·rw [if_pos h1,List.mem_cons,Zmb hs.2 y,List.mem_cons]
   have hx:x.Real ≠ c.Real:=fun e=>by rw [e,swoH.irrefl] at h1; cases h1
   constructor
   ·rintro(rfl | rfl | ⟨h,h'⟩)
    ·exact .inr ⟨.inl rfl,hx⟩
    ·exact .inl rfl
    ·exact .inr ⟨.inr h,h'⟩
   ·rintro(rfl | ⟨rfl | h,h'⟩)
    ·exact .inr (.inl rfl)
    ·exact .inl rfl
    ·exact .inr (.inr ⟨h,h'⟩)
  ·rw [if_neg h1]
   by_cases h2:Zg x.Real c.Real=true
   ·rw [if_pos h2,List.mem_cons,List.mem_cons]
    rw [eqH] at h2
    constructor
    ·rintro(rfl | h)
     ·exact .inl rfl
     ·refine .inr ⟨.inr h,fun e=>?_⟩
      have:=hs.1 y h
      rw [h2,e,swoH.irrefl] at this; cases this
    ·rintro(rfl | ⟨rfl | h,h'⟩)
     ·exact .inl rfl
     ·exact absurd h2 h'
     ·exact .inr h
   ·rw [if_neg h2,List.mem_cons]
    have hx:x.Real ≠ c.Real:=fun e=>h2 ((eqH _ _).2 e)
    constructor
    ·rintro(rfl | h)
     ·exact .inl rfl
     ·refine .inr ⟨h,fun e=>?_⟩
      rcases List.mem_cons.1 h with rfl | h
      ·exact hx e
      ·have:=hs.1 y h
       rw [e] at this
       exact h1 this
    ·rintro(rfl | ⟨h,_⟩)
     ·exact .inl rfl
     ·exact .inr h
theorem Zpv {c:Za}:∀ {R:CL},Srt R→Srt (rput c R)
 | [],_=>List.pairwise_singleton _ _
 | x :: R,hs=>by
  have hs':=List.pairwise_cons.1 hs
  unfold rput
  by_cases h1:ltH x.Real c.Real=true
  ·rw [if_pos h1]
   refine List.pairwise_cons.2 ⟨fun y hy=>?_,Zpv hs'.2⟩
   rcases (Zmb hs'.2 y).1 hy with rfl | ⟨hy,_⟩
   ·exact h1
   ·exact hs'.1 y hy
  ·rw [if_neg h1]
   by_cases h2:Zg x.Real c.Real=true
   ·rw [if_pos h2]
    rw [eqH] at h2
    refine List.pairwise_cons.2 ⟨fun y hy=>?_,hs'.2⟩
    rw [← h2]; exact hs'.1 y hy
   ·rw [if_neg h2]
    have hlt:ltH c.Real x.Real=true:=by
     cases h:ltH c.Real x.Real with
     | true=>rfl
     | false=>exact absurd ((eqH _ _).2 (Zok (Bool.eq_false_iff.2 h1) h)) h2
    refine List.pairwise_cons.2 ⟨fun y hy=>?_,hs⟩
    rcases List.mem_cons.1 hy with rfl | hy
    ·exact hlt
    ·exact swoH.trans _ _ _ hlt (hs'.1 y hy)
theorem Rel.put {L:TB} {R:CL} (h:Rel L R) {k:Zc} {c:Za} (hr:c.Real=k) (hi:Inv (mput Zg L k c)):Rel (mput Zg L k c) (rput c R):=⟨hi,fun y=>by
  rw [Zmb h.srt,h.mem]
  constructor
  ·rintro(rfl | ⟨h1,h2⟩)
   ·rw [hr]; exact Zry
   ·exact Zrz h1 (by rw [← hr]; exact h2)
  ·intro hy
   rcases Zhq hy with e | ⟨h1,h2⟩
   ·exact .inl (congrArg Prod.snd e)
   ·exact .inr ⟨h1,by rw [hr]; exact h2⟩,Zpv h.srt⟩
end Go.AM
set_option maxRecDepth 100000
namespace Go.AM
open Go
abbrev RT:=Zk
def mkT (most:Int) (R:CL):RT:=⟨most,R⟩
theorem Zne (now:Int):∀(l:CL) (i:Nat) (out:CL),foldI (fun(s:CL) (_:Nat) (x:Za)=>if x.Expires > now then s++[x] else s) out i l=out++liveR now l
 | [],_,out=>by simp [foldI,liveR]
 | x :: l,i,out=>by
  unfold foldI
  rw [Zne now l (i + 1)]
  unfold liveR
  rw [List.filter_cons]
  by_cases h:x.Expires > now
  ·rw [if_pos h,if_pos (by simpa using h),List.append_assoc]; rfl
  ·rw [if_neg h,if_neg (by simpa using h)]
theorem Zr6 (now:Int) (R:CL):(liveR now R).length≤R.length:=List.length_filter_le _ _
theorem Zr7 {R:CL} (hl:R.length≤64) (most now:Int):Z6 (mkT most R) now=some ((R.length:Int) - ((liveR now R).length:Int),mkT most (liveR now R)):=by
 unfold Z6
 obtain⟨h1,_⟩:=Zru (L:=Zat (mkT most R) now) R (fun(s:CL) (_:Nat) (x:Za)=>if x.Expires > now then s++[x] else s) id (fun i s=>s.length≤i) (by omega) (fun n s i hi hs=>by
  rw [Zat]
  have e:(mkT most R).L=R:=rfl
  rw [e,if_pos (by simp; omega),Zbm hi]
  simp only [Option.bind_some]
  rw [wsucc (by omega)]
  by_cases h:R[i].Expires > now
  ·rw [if_pos (by simpa using h),if_pos h,if_pos (by unfold lim; simp only [List.length_singleton]; omega)]
   exact⟨rfl,by simp; omega⟩
  ·rw [if_neg (by simpa using h),if_neg h]
   exact⟨rfl,by omega⟩) (fun n s _=>by
  rw [Zat]
  have e:(mkT most R).L=R:=rfl
  rw [e,if_neg (by simp)]; rfl) [] (by simp)
 rw [h1,Zne]
 simp only [Option.bind_some,List.nil_append,id]
 have:=Zr6 now R
 show some (IntKind.wrap .i64 ((R.length:Int) - ((liveR now R).length:Int)),_)=_
 rw [wi64 (by omega) (by omega)]; rfl
def gIx (k:Zc) (i:Nat) (c:Za):Option Int:=if Zg c.Real k=true then some (i:Int) else none
def rIx (R:CL) (k:Zc):Int:=orN (findI (gIx k) 0 R)
theorem Zjs {R:CL} (hl:R.length≤64) (most:Int) (k:Zc):Zav (mkT most R) k=some (rIx R k):=by
 unfold Zav rIx
 have e:(mkT most R).L=R:=rfl
 rw [Zdf (L:=Zau (mkT most R) k) R (gIx k) (by omega) (fun n i hi=>by
  rw [Zau,e,if_pos (by simp; omega),Zbm hi]
  simp only [Option.bind_some]
  unfold gIx
  rw [wsucc (by omega)]
  by_cases h:Zg R[i].Real k=true
  ·rw [if_pos h,if_pos h]
  ·rw [if_neg h,if_neg h]) (fun n=>by rw [Zau,e,if_neg (by simp)])]
 cases findI (gIx k) 0 R <;> rfl
theorem Zpw {k:Zc}:∀(R:CL) (i:Nat),match R.find? (fun c=>Zg c.Real k) with
  | some c=>∃ j:Nat,findI (gIx k) i R=some ((i + j:Nat):Int)∧R[j]? = some c∧(∀ x∈R.take j,Zg x.Real k=false)
  | none=>findI (gIx k) i R=none
 | [],_=>rfl
 | x :: R,i=>by
  rw [List.find?_cons]
  unfold findI gIx
  cases h:Zg x.Real k with
  | true=>exact⟨0,by simp,rfl,by simp⟩
  | false=>
   simp only [Bool.false_eq_true,if_false]
   have:=Zpw (k:=k) R (i + 1)
   cases hf:R.find? (fun c=>Zg c.Real k) with
   | none=>rw [hf] at this; exact this
   | some c=>
    rw [hf] at this
    obtain⟨j,h1,h2,h3⟩:=this
    refine⟨j + 1,?_,h2,fun y hy=>?_⟩
    ·show findI (gIx k) (i + 1) R=_
     rw [h1]; congr 2; omega
    ·rw [List.take_succ_cons] at hy
     rcases List.mem_cons.1 hy with rfl | hy
     ·exact h
     ·exact h3 y hy
theorem Zk8 (R:CL) (k:Zc):match rget R k with
  | some c=>∃ j:Nat,rIx R k=(j:Int)∧R[j]? = some c∧(∀ x∈R.take j,Zg x.Real k=false)
  | none=>rIx R k=-1:=by
 have:=Zpw (k:=k) R 0
 unfold rget rIx
 cases hf:R.find? (fun c=>Zg c.Real k) with
 | none=>rw [hf] at this; simp only at this ⊢; rw [this]; rfl
 | some c=>
  rw [hf] at this
  obtain⟨j,h1,h2,h3⟩:=this
  exact⟨j,by rw [h1]; simp [orN],h2,h3⟩
def rent (most:Int) (R:CL) (real:Zc) (opens:Bool):Za × Int:=match rget R real with
 | some c=>(c,0)
 | none=>if opens=false then (zC,16) else if (R.length:Int) ≥ most then (zC,9) else (newC real,0)
theorem Zjt {R:CL} (hl:R.length≤64) (most:Int) (real:Zc) (opens:Bool):Zax (mkT most R) real opens=some (rent most R real opens):=by
 unfold Zax rent
 rw [Zjs hl]
 have:=Zk8 R real
 cases hg:rget R real with
 | none=>
  rw [hg] at this
  simp only at this
  rw [this]
  simp only [Option.bind_some]
  rw [if_neg (by decide)]
  cases opens
  ·rfl
  ·simp only [Bool.not_true,Bool.false_eq_true,if_false,Bool.true_eq_false]
   show (if decide ((R.length:Int) ≥ most)=true then _ else _)=_
   by_cases h:(R.length:Int) ≥ most
   ·rw [if_pos (by simpa using h),if_pos h]; rfl
   ·rw [if_neg (by simpa using h),if_neg h]; rfl
 | some c=>
  rw [hg] at this
  obtain⟨j,h1,h2,_⟩:=this
  rw [h1]
  simp only [Option.bind_some]
  have hj:=(List.getElem?_eq_some_iff.1 h2).1
  rw [if_pos (by simp),show (mkT most R).L=R from rfl,Zbm hj]
  have e:R[j]=c:=(List.getElem?_eq_some_iff.1 h2).2
  rw [e]; rfl
theorem Zhr {c:Za} (hs:c.State=1∨c.State=2∨c.State=3) {now:Int} (hn:Zcl now):Zac c now=some (rfr c now):=by
 unfold Zac
 have key:(if (c.Real.Proto == (6:Int))=true then if (c.State == (1:Int))=true then some (30:Int) else if (c.State == (2:Int))=true then some (600:Int) else some (10:Int) else some (60:Int))=some (lf c.Real.Proto c.State):=by
  unfold lf
  by_cases h6:c.Real.Proto=6
  ·rw [if_pos (by simp [h6]),if_pos h6]
   rcases hs with h | h | h <;> rw [h] <;> rfl
  ·rw [if_neg (by simpa using h6),if_neg h6]
 rw [key]
 simp only [Option.bind_some]
 unfold rfr
 have:=lf_rng c.Real.Proto c.State
 unfold Zcl at hn
 rw [wi64 (by omega) (by omega)]
 by_cases h:now≤9223372036854775807 - lf c.Real.Proto c.State
 ·rw [if_pos (by simpa using h),if_pos h,wi64 (by omega) (by omega)]; rfl
 ·rw [if_neg (by simpa using h),if_neg h]; rfl
theorem Zsu (a b:Int):Zdh a b=some (c3 a b):=by
 unfold Zdh c3
 simp only [decide_eq_true_eq,gt_iff_lt]
 repeat' split
 all_goals rfl
theorem Zhs (g h:Zc) (n:Nat) {k:Int} (h0:0≤k) (h1:k<5):Zal (ofB (hv g)) (ofB (hv h)) (n + 1) k=if (hv g).get k ≠ (hv h).get k then some (.inr (c3 ((hv g).get k) ((hv h).get k))) else Zal (ofB (hv g)) (ofB (hv h)) n (k + 1):=by
 have lo:∀ v:Arr5 Int,((ofB v).get k).Lo=v.get k:=fun v=>by
  have:k=0∨k=1∨k=2∨k=3∨k=4:=by omega
  rcases this with rfl | rfl | rfl | rfl | rfl <;> rfl
 have hi:∀ v:Arr5 Int,((ofB v).get k).Hi=v.get k:=fun v=>by
  have:k=0∨k=1∨k=2∨k=3∨k=4:=by omega
  rcases this with rfl | rfl | rfl | rfl | rfl <;> rfl
 rw [Zal]
 simp only [show k<5 from h1,decide_true,if_true,show 0≤k∧k<5 from ⟨h0,h1⟩,and_self,lo,hi,Zsu,Option.bind_some,wnext h0 (by omega:k<1000000)]
 by_cases he:(hv g).get k=(hv h).get k
 ·rw [if_neg (by simp [he]),if_neg (by simp [he]),if_neg (by simp [he])]
 ·rw [if_pos (by simpa using he),if_pos he]
theorem Zsv {g h:Zc} (hg:Zu g) (hh:Zu h):Zd5 g h=some (cmpL g h):=by
 unfold Zd5 Zeb
 rw [rOf_eq hg,rOf_eq hh]
 simp only [Option.bind_some]
 have key:Zal (ofB (hv g)) (ofB (hv h)) fuel 0=some (if cmpL g h=0 then .inl () else .inr (cmpL g h)):=by
  rw [fuel6,Zhs g h _ (by omega) (by omega),Zhs g h _ (by omega) (by omega),Zhs g h _ (by omega) (by omega),Zhs g h _ (by omega) (by omega),Zhs g h _ (by omega) (by omega)]
  have stop:Zal (ofB (hv g)) (ofB (hv h)) (1180591620717411303418 + 1) (0 + 1 + 1 + 1 + 1 + 1)=some (.inl ()):=by
   rw [Zal]; rfl
  rw [stop]
  have c0:∀ a b:Int,a ≠ b→c3 a b ≠ 0:=fun a b h=>by unfold c3; (repeat' split) <;> omega
  have c1:∀ a:Int,c3 a a=0:=fun a=>by unfold c3; simp
  have step:∀(a b:Int) (l:List Int) (x:Option (Unit ⊕ Int)),x=some (if orV l=0 then .inl () else .inr (orV l))→(if a ≠ b then some (.inr (c3 a b)) else x)=some (if orV (c3 a b :: l)=0 then .inl () else .inr (orV (c3 a b :: l))):=fun a b l x hx=>by
   rw [orV]
   by_cases h:a=b
   ·subst h
    rw [if_neg (by simp),hx,c1]
    simp
   ·rw [if_pos h,if_pos (c0 a b h),if_neg (c0 a b h)]
  unfold cmpL
  exact step _ _ _ _ (step _ _ _ _ (step _ _ _ _ (step _ _ _ _ (step _ _ [] _ rfl))))
 rw [key]
 by_cases h0:cmpL g h=0
 ·rw [if_pos h0,h0]; rfl
 ·rw [if_neg h0]; rfl
theorem Zpx {most:Int} {R:CL} {c:Za} (hl:R.length≤64) (hr:∀ x∈R,Zu x.Real) (hc:Zu c.Real):∀(n m:Nat) (pre suf:CL),R=pre++suf→suf.length=n→n<m →
  ∃ p s,Za1 (mkT most R) c m pre (pre.length:Int)=some (p,(p.length:Int))∧R=p++s∧pre++rput c suf=p++rput c s∧(∀ x xs,s=x :: xs→ltH x.Real c.Real=false)
 | 0,m,pre,suf,hR,hn,hm=>by
  obtain⟨m,rfl⟩:∃ k,m=k + 1:=⟨m - 1,by omega⟩
  have hs:suf=[]:=List.eq_nil_of_length_eq_zero hn
  subst hs
  rw [Za1]
  have e:(mkT most R).L=R:=rfl
  rw [e]
  have hlen:¬ ((pre.length:Int)<(R.length:Int)):=by rw [hR]; simp
  simp only [hlen,decide_false,Option.bind_some,Bool.false_eq_true,if_false]
  exact⟨pre,[],rfl,hR,rfl,by simp⟩
 | n + 1,m,pre,suf,hR,hn,hm=>by
  obtain⟨m,rfl⟩:∃ k,m=k + 1:=⟨m - 1,by omega⟩
  cases suf with
  | nil=>simp at hn
  | cons x suf=>
   rw [Za1]
   have e:(mkT most R).L=R:=rfl
   rw [e]
   have hRl:R.length=pre.length + (suf.length + 1):=by rw [hR]; simp
   have hlen:((pre.length:Int)<(R.length:Int)):=by omega
   have hp:pre.length<R.length:=by omega
   have hx:R[pre.length]=x:=by
    have:R[pre.length]? = some x:=by rw [hR]; simp
    exact(List.getElem?_eq_some_iff.1 this).2
   simp only [hlen,decide_true,Option.bind_some,if_true,Zbm hp,hx]
   rw [Zsv (hr x (by rw [hR]; simp)) hc]
   simp only [Option.bind_some,Zqs]
   by_cases h:ltH x.Real c.Real=true
   ·simp only [h,if_true]
    rw [if_pos (by unfold lim; simp only [List.length_singleton]; omega),wsucc (by omega)]
    obtain⟨p,s,h1,h2,h3,h4⟩:=Zpx (most:=most) hl hr hc n m (pre++[x]) suf (by rw [hR]; simp) (by simpa using hn) (by omega)
    rw [List.length_append,List.length_singleton] at h1
    refine⟨p,s,h1,h2,?_,h4⟩
    rw [rput,if_pos h,← h3,List.append_assoc]; rfl
   ·have h':=Bool.eq_false_iff.2 h
    simp only [h',Bool.false_eq_true,if_false]
    refine⟨pre,x :: suf,rfl,hR,rfl,fun y ys he=>?_⟩
    simp only [List.cons.injEq] at he
    rw [← he.1]; exact h'
theorem Znv {most:Int} {R:CL} {c:Za} (hl:R.length≤64) (hr:∀ x∈R,Zu x.Real) (hc:Zu c.Real):Zad (mkT most R) c=some (mkT most (rput c R)):=by
 unfold Zad
 obtain⟨p,s,h1,h2,h3,h4⟩:=Zpx (most:=most) hl hr hc R.length fuel [] R rfl rfl (by unfold fuel; omega)
 rw [show (([]:CL).length:Int)=0 from rfl] at h1
 rw [h1]
 simp only [Option.bind_some,List.nil_append] at h3 ⊢
 rw [h3]
 have e:(mkT most R).L=R:=rfl
 have hpl:p.length + s.length=R.length:=by rw [h2]; simp
 rw [e,if_pos (by unfold lim; simp only [List.length_singleton]; omega)]
 have fin:∀(j:Nat) (r:CL),j≤R.length→R.drop j=r→rput c s=c :: r→(if 0≤(j:Int)∧(j:Int)≤(R.length:Int)∧(R.length:Int)≤(R.length:Int) then
   if List.length (p++[c]) + List.length (List.drop (Int.toNat (j:Int)) (List.take (Int.toNat (R.length:Int)) R))≤lim then
   some ({ mkT most R with L:=((p++[c])++(List.drop (Int.toNat (j:Int)) (List.take (Int.toNat (R.length:Int)) R))) }:Zk) else none else none)=some (mkT most (p++rput c s)):=fun j r hj hd hp=>by
  rw [if_pos ⟨by omega,by omega,Int.le_refl _⟩,Int.toNat_natCast,Int.toNat_natCast,List.take_length,hd]
  have:r.length≤R.length:=by rw [← hd]; simp
  rw [if_pos (by unfold lim; simp only [List.length_append,List.length_singleton]; omega),hp,List.append_assoc]
  rfl
 cases s with
 | nil=>
  simp only [List.length_nil,Nat.add_zero] at hpl
  have hlen:¬ ((p.length:Int)<(R.length:Int)):=by omega
  simp only [hlen,decide_false,Option.bind_some,Bool.false_eq_true,if_false]
  exact fin p.length [] (by omega) (by rw [hpl]; simp) rfl
 | cons x s=>
  have hlt:=h4 x s rfl
  simp only [List.length_cons] at hpl
  have hlen:((p.length:Int)<(R.length:Int)):=by omega
  have hp:p.length<R.length:=by omega
  have hx:R[p.length]=x:=by
   have:R[p.length]? = some x:=by rw [h2]; simp
   exact(List.getElem?_eq_some_iff.1 this).2
  simp only [hlen,decide_true,Option.bind_some,if_true,Zbm hp,hx]
  by_cases he:Zg x.Real c.Real=true
  ·simp only [he,if_true,Option.bind_some]
   rw [wsucc (by omega)]
   exact fin (p.length + 1) s (by omega) (by rw [h2]; simp) (by rw [rput,if_neg (by simp [hlt]),if_pos he])
  ·have he':=Bool.eq_false_iff.2 he
   simp only [he',Bool.false_eq_true,if_false,Option.bind_some]
   exact fin p.length (x :: s) (by omega) (by rw [h2]; simp) (by rw [rput,if_neg (by simp [hlt]),if_neg he])
end Go.AM
set_option maxRecDepth 100000
namespace Go.AM
open Go
theorem Rel.liveLen {L:TB} {R:CL} (h:Rel L R) (now:Int):(liveR now R).length≤64:=by
 rw [(h.live now).len]; exact(h.live now).inv.len
theorem Rel.rlen {L:TB} {R:CL} (h:Rel L R):R.length≤64:=by rw [h.len]; exact h.inv.len
theorem Rel.okR {L:TB} {R:CL} (h:Rel L R):∀ x∈R,CoK x:=fun x hx=>h.inv.el _ ((h.mem x).1 hx)
theorem Rel.sweep {L:TB} {R:CL} (h:Rel L R) (most now:Int):Z6 (mkT most R) now=some ((dead now L:Int),mkT most (liveR now R)):=by
 rw [Zr7 h.rlen,Zrw,h.len,(h.live now).len]
theorem Zsw {L:TB} {R:CL} (h:Rel L R) (most:Int) (real:Zc) (now:Int):Zco (mkT most R) real now=some ((mget Zg (live now L) real).getD zC,(mget Zg (live now L) real).isSome,mkT most (liveR now R)):=by
 unfold Zco
 rw [h.sweep]
 simp only [Option.bind_some]
 rw [Zjs (h.liveLen now),(h.live now).get]
 have:=Zk8 (liveR now R) real
 cases hg:rget (liveR now R) real with
 | none=>
  rw [hg] at this
  simp only at this
  rw [this]
  rfl
 | some c=>
  rw [hg] at this
  obtain⟨j,h1,h2,_⟩:=this
  rw [h1]
  have hj:=(List.getElem?_eq_some_iff.1 h2).1
  simp only [Option.bind_some]
  rw [if_pos (by simp),show (mkT most (liveR now R)).L=liveR now R from rfl,Zbm hj]
  have e:(liveR now R)[j]=c:=(List.getElem?_eq_some_iff.1 h2).2
  rw [e]; rfl
theorem Zr8 {X:Type} {p:X→Bool} {L:List X} (hu:∀ x∈L,∀ y∈L,p x=true→p y=true→x=y) {x:X} (hx:x∈L) (hp:p x=true):L.find? p=some x:=by
 cases hf:L.find? p with
 | none=>rw [List.find?_eq_none] at hf; exact absurd hp (hf x hx)
 | some y=>rw [hu y (List.mem_of_find?_eq_some hf) x hx (List.find?_some hf) hp]
def qD (edge:Int) (want:Zc) (c:Za):Bool:=(decide (c.To ≥ 0) && (c.To == edge)) && Zg c.Delivered want
def gD (edge:Int) (want:Zc) (_:Nat) (c:Za):Option Za:=if qD edge want c=true then some c else none
def fndR (o:Option Za):Za × Bool:=match o with
 | some x=>(x,true)
 | none=>(zC,false)
theorem Znw {L:TB} {R:CL} (h:Rel L R) (most edge:Int) (hd:Zc) (now:Int):Zar (mkT most R) edge hd now=some ((fndR ((liveR now R).find? (qD edge (rev hd)))).1,(fndR ((liveR now R).find? (qD edge (rev hd)))).2,mkT most (liveR now R)):=by
 unfold Zar
 rw [h.sweep]
 simp only [Option.bind_some]
 have e:(mkT most (liveR now R)).L=liveR now R:=rfl
 have hl:=h.liveLen now
 rw [Zdf (L:=Zag edge hd ((dead now L:Int),mkT most (liveR now R))) (liveR now R) (fun i c=>(gD edge (rev hd) i c).map fun c=>(c,true,mkT most (liveR now R))) (by omega) (fun n i hi=>by
  rw [Zag]
  simp only [e]
  rw [if_pos (by simp; omega),Zbm hi]
  simp only [Option.bind_some,Zqr]
  rw [wsucc (by omega)]
  unfold gD qD
  by_cases h1:(liveR now R)[i].To ≥ 0
  ·simp only [h1,decide_true,if_true,Option.bind_some,Bool.true_and]
   by_cases h2:((liveR now R)[i].To == edge)=true
   ·simp only [h2,if_true,Option.bind_some,Bool.true_and]
    by_cases h3:Zg (liveR now R)[i].Delivered (rev hd)=true
    ·rw [if_pos h3,if_pos h3]; rfl
    ·rw [if_neg h3,if_neg h3]; rfl
   ·have h2:=Bool.eq_false_iff.2 h2
    simp only [h2,Bool.false_eq_true,if_false,Option.bind_some,Bool.false_and]; rfl
  ·simp only [h1,decide_false,Bool.false_eq_true,if_false,Option.bind_some,Bool.false_and]; rfl) (fun n=>by
  rw [Zag]
  simp only [e]
  rw [if_neg (by simp)])]
 have em:∀(l:CL) (i:Nat),findI (fun i c=>(gD edge (rev hd) i c).map fun c=>(c,true,mkT most (liveR now R))) i l=(l.find? (qD edge (rev hd))).map fun c=>(c,true,mkT most (liveR now R)):=by
  intro l
  induction l with
  | nil=>intro i; rfl
  | cons x l ih=>
   intro i
   unfold findI gD
   rw [List.find?_cons]
   cases h:qD edge (rev hd) x with
   | true=>rfl
   | false=>
    simp only [Bool.false_eq_true,if_false,Option.map_none]
    exact ih (i + 1)
 rw [em]
 cases (liveR now R).find? (qD edge (rev hd)) <;> rfl
theorem Rel.found {L:TB} {R:CL} (h:Rel L R) {edge:Int} (he:0≤edge) (want:Zc):fndR (R.find? (qD edge want))=fnd (L.find? (dP edge want)):=by
 have q_p:∀ c,(c.Real,c)∈L→(qD edge want c=true ↔ dP edge want (c.Real,c)=true):=fun c _=>by
  unfold qD dP
  simp only [Bool.and_eq_true,decide_eq_true_eq,beq_iff_eq]
  constructor
  ·rintro⟨⟨_,h2⟩,h3⟩; exact⟨h2,h3⟩
  ·rintro⟨h2,h3⟩; exact⟨⟨by omega,h2⟩,h3⟩
 cases hf:L.find? (dP edge want) with
 | some x=>
  have hx:=List.mem_of_find?_eq_some hf
  have hp:=List.find?_some hf
  have hr:=h.inv.ta.real x hx
  have hx':(x.2.Real,x.2)∈L:=by rw [hr]; exact hx
  have:R.find? (qD edge want)=some x.2:=Zr8 (fun a ha b hb h1 h2=>by
   have a':=(h.mem a).1 ha
   have b':=(h.mem b).1 hb
   exact congrArg Prod.snd (h.inv.uniqD he want _ a' _ b' ((q_p a a').1 h1) ((q_p b b').1 h2))) ((h.mem _).2 hx') ((q_p _ hx').2 (by rw [hr]; exact hp))
  rw [this]; rfl
 | none=>
  have:R.find? (qD edge want)=none:=by
   rw [List.find?_eq_none] at hf ⊢
   intro c hc hq
   have c':=(h.mem c).1 hc
   exact hf _ c' ((q_p c c').1 hq)
  rw [this]; rfl
theorem Rel.foundN {R:CL} {edge:Int} (he:edge<0) (want:Zc):fndR (R.find? (qD edge want))=(zC,false):=by
 have:R.find? (qD edge want)=none:=by
  rw [List.find?_eq_none]
  intro c _ hq
  unfold qD at hq
  simp only [Bool.and_eq_true,decide_eq_true_eq,beq_iff_eq] at hq
  omega
 rw [this]; rfl
theorem Zmc {L:TB} {R:CL} (h:Rel L R) (sel:Za→Int) (most:Int) (real:Zc) (opens:Bool):rent most R real opens=match mget Zg L real with
  | some c=>(c,0)
  | none=>entP sel most L real opens:=by
 unfold rent entP
 rw [← h.get,h.len]
 cases mget Zg L real <;> rfl
theorem Znx {L:TB} {R:CL} (h:Rel L R) {most:Int} {now:Int} (hn:Zcl now) {k:Zc} {c:Za} (hc:CoK c) (hk:c.Real=k) (hi:Inv (mput Zg L k (rfr c now))) {G:RT→Option (Int × RT)} (hG:∀ t,G t=some (0,t)) :
  ∃ R',((Zac c now).bind fun r34=>(Zad (mkT most R) r34).bind G)=some (0,mkT most R')∧Rel (mput Zg L k (rfr c now)) R':=by
 rw [Zhr hc.st hn]
 simp only [Option.bind_some]
 rw [Znv h.rlen (fun x hx=>(h.okR x hx).real) (show Zu (rfr c now).Real from hc.real)]
 simp only [Option.bind_some,hG]
 exact⟨_,rfl,h.put hk hi⟩
theorem Zqa {L:TB} {R:CL} (h:Rel L R) {most:Int} (hm:most≤64) (edge:Int) (sent:Zc) {real:Zc} (hr:Zu real) (cls:ByteArray) (opens:Bool) {now:Int} (hn:Zcl now) :
  ∃ R',Zbx (mkT most R) edge sent real cls opens now=some ((ing most L edge sent real cls opens now).1,mkT most R')∧Rel (ing most L edge sent real cls opens now).2 R':=by
 have hM:=h.live now
 have hinv:=Ztl h.inv hm edge sent hr cls opens now
 unfold Zbx
 rw [h.sweep]
 simp only [Option.bind_some]
 have e:(mkT most (liveR now R)).L=liveR now R:=rfl
 by_cases h1:edge<0
 ·have eI:ing most L edge sent real cls opens now=(1,live now L):=by unfold ing; rw [if_pos h1]
  rw [eI,if_pos (by simpa using h1)]
  exact⟨_,rfl,hM⟩
 ·rw [if_neg (by simpa using h1),Zjs (h.liveLen now)]
  simp only [Option.bind_some]
  rw [Zjt (h.liveLen now),Zmc hM (·.From)]
  simp only [Option.bind_some]
  have ix:=Zk8 (liveR now R) real
  rw [← hM.get] at ix
  have he0:0≤edge:=by omega
  cases hg:mget Zg (live now L) real with
  | none=>
   rw [hg] at ix
   simp only at ix
   rw [ix]
   simp only [Option.bind_some,show decide ((-1:Int) ≥ 0)=false from rfl,Bool.false_eq_true,if_false]
   have hcol:¬ colM (live now L) real edge sent=true:=by unfold colM; rw [hg]; simp
   by_cases h2:(entP (·.From) most (live now L) real opens).2=0
   ·obtain⟨c1,c2,c3⟩:=Zf9 hM.inv hm hr h2
    have eI:ing most L edge sent real cls opens now=(0,mput Zg (live now L) (entP (·.From) most (live now L) real opens).1.Real (rfr { (entP (·.From) most (live now L) real opens).1 with From:=edge,Sent:=sent,Class:=cls } now)):=by
     unfold ing; rw [if_neg h1,if_neg hcol,if_neg (by simp [h2])]
    rw [eI] at hinv ⊢
    have hop:opens=true:=by
     cases opens with
     | true=>rfl
     | false=>unfold entP at h2; rw [hg] at h2; simp at h2
    rw [if_neg (by simp [h2]),if_neg (by simp [hop])]
    exact Znx hM hn (show CoK { (entP (·.From) most (live now L) real opens).1 with From:=edge,Sent:=sent,Class:=cls } from ⟨c1.real,c1.del,.inr he0,c1.to,c1.st⟩) rfl hinv (G:=fun r36=>some (0,r36)) (fun _=>rfl)
   ·have eI:ing most L edge sent real cls opens now=((entP (·.From) most (live now L) real opens).2,live now L):=by
     unfold ing; rw [if_neg h1,if_neg hcol,if_pos h2]
    rw [eI,if_pos (by simpa using h2)]
    exact⟨_,rfl,hM⟩
  | some c=>
   rw [hg] at ix
   obtain⟨j,i1,i2,_⟩:=ix
   have hj:=(List.getElem?_eq_some_iff.1 i2).1
   have ej:(liveR now R)[j]=c:=(List.getElem?_eq_some_iff.1 i2).2
   have hc:CoK c:=hM.inv.el _ (Zdv hg)
   have hcr:c.Real=real:=hM.inv.ta.real _ (Zdv hg)
   have hfr:=hc.fr
   rw [i1]
   simp only [Option.bind_some,e,Zbm hj,ej,show decide ((j:Int) ≥ 0)=true from by simp,if_true]
   have hf0:decide (c.From ≥ 0)=(c.From != -1):=by
    rw [Bool.eq_iff_iff,bne_iff_ne,decide_eq_true_eq]
    omega
   rw [hf0]
   have ecol:colM (live now L) real edge sent=colB c edge sent:=by unfold colM; rw [hg]
   have tail:colB c edge sent=false→∃ R',(if ((0:Int) != 0)=true then some ((0:Int),mkT most (liveR now R)) else
      if (decide (c.From<0) && !opens)=true then some (16,mkT most (liveR now R)) else
      (Zac { c with From:=edge,Sent:=sent,Class:=cls } now).bind fun r34=>(Zad (mkT most (liveR now R)) r34).bind fun r36=>some (0,r36)) =
      some ((ing most L edge sent real cls opens now).1,mkT most R')∧Rel (ing most L edge sent real cls opens now).2 R':=fun hcol=>by
    have hcol':¬ colM (live now L) real edge sent=true:=by rw [ecol,hcol]; decide
    have hfe:(c.From == -1)=decide (c.From<0):=by
     rw [Bool.eq_iff_iff,beq_iff_eq,decide_eq_true_eq]
     omega
    rw [if_neg (by decide)]
    by_cases h3:(decide (c.From<0) && !opens)=true
    ·have eE:entP (·.From) most (live now L) real opens=(zC,16):=by
      unfold entP; rw [hg]; simp only; rw [hfe,Bool.and_comm,if_pos h3]
     have eI:ing most L edge sent real cls opens now=(16,live now L):=by
      unfold ing; rw [if_neg h1,if_neg hcol',eE,if_pos (by decide)]
     rw [eI,if_pos h3]
     exact⟨_,rfl,hM⟩
    ·have eE:entP (·.From) most (live now L) real opens=(c,0):=by
      unfold entP; rw [hg]; simp only; rw [hfe,Bool.and_comm,if_neg h3]
     have eI:ing most L edge sent real cls opens now=(0,mput Zg (live now L) c.Real (rfr { c with From:=edge,Sent:=sent,Class:=cls } now)):=by
      unfold ing; rw [if_neg h1,if_neg hcol',eE,if_neg (by simp)]
     rw [eI] at hinv ⊢
     rw [if_neg h3]
     exact Znx hM hn (show CoK { c with From:=edge,Sent:=sent,Class:=cls } from ⟨hc.real,hc.del,.inr he0,hc.to,hc.st⟩) rfl hinv (G:=fun r36=>some (0,r36)) (fun _=>rfl)
   have col:colB c edge sent=true→Rel (ing most L edge sent real cls opens now).2 (liveR now R)∧(ing most L edge sent real cls opens now).1=12:=fun hcol=>by
    have eI:ing most L edge sent real cls opens now=(12,live now L):=by
     unfold ing; rw [if_neg h1,if_pos (by rw [ecol]; exact hcol)]
    rw [eI]
    exact⟨hM,rfl⟩
   by_cases h4:(c.From != -1)=true
   ·rw [if_pos h4]
    try simp only [Option.bind_some]
    by_cases h5:(c.From != edge)=true
    ·rw [if_pos h5]
     try simp only [Option.bind_some,if_true]
     obtain⟨k1,k2⟩:=col (by unfold colB; rw [h4,h5]; rfl)
     exact⟨_,by rw [k2],k1⟩
    ·rw [if_neg h5]
     try simp only [Option.bind_some]
     by_cases h6:(!(Zg c.Sent sent))=true
     ·rw [if_pos h6]
      obtain⟨k1,k2⟩:=col (by unfold colB; rw [h4,h6]; simp)
      exact⟨_,by rw [k2],k1⟩
     ·rw [if_neg h6]
      exact tail (by unfold colB; rw [Bool.eq_false_iff.2 h5,Bool.eq_false_iff.2 h6]; simp)
   ·rw [if_neg h4]
    try simp only [Option.bind_some,Bool.false_eq_true,if_false]
    exact tail (by unfold colB; rw [Bool.eq_false_iff.2 h4]; rfl)
theorem Zqb {L:TB} {R:CL} (h:Rel L R) {most:Int} (hm:most≤64) {real:Zc} (hr:Zu real) (cls:ByteArray) {now:Int} (hn:Zcl now) :
  ∃ R',Zb0 (mkT most R) real cls now=some ((insp most L real cls now).1,mkT most R')∧Rel (insp most L real cls now).2 R':=by
 have hM:=h.live now
 have hinv:=Zst h.inv hm hr cls now
 unfold Zb0
 rw [h.sweep]
 simp only [Option.bind_some]
 rw [Zjt (h.liveLen now)]
 have he:rent most (liveR now R) real true=entP (·.To) most (live now L) real true:=by
  rw [Zmc hM (·.To)]
  cases hg:mget Zg (live now L) real with
  | none=>rfl
  | some c=>unfold entP; rw [hg]; rfl
 rw [he]
 simp only [Option.bind_some]
 by_cases h2:(entP (·.To) most (live now L) real true).2=0
 ·obtain⟨c1,c2,c3⟩:=Zf9 hM.inv hm hr h2
  have eI:insp most L real cls now=(0,mput Zg (live now L) (entP (·.To) most (live now L) real true).1.Real (rfr { (entP (·.To) most (live now L) real true).1 with Waypoint:=true,Class:=cls } now)):=by
   unfold insp; rw [if_neg (by simp [h2])]
  rw [eI] at hinv ⊢
  rw [if_neg (by simp [h2])]
  exact Znx hM hn (show CoK { (entP (·.To) most (live now L) real true).1 with Waypoint:=true,Class:=cls } from ⟨c1.real,c1.del,c1.fr,c1.to,c1.st⟩) rfl hinv (G:=fun r36=>some (0,r36)) (fun _=>rfl)
 ·have eI:insp most L real cls now=((entP (·.To) most (live now L) real true).2,live now L):=by
   unfold insp; rw [if_pos h2]
  rw [eI,if_pos (by simpa using h2)]
  exact⟨_,rfl,hM⟩
theorem Ztn {R:CL} {k:Zc} {c:Za} {j:Nat} (hs:Srt R) (h1:R[j]? = some c) (h2:c.Real=k) (h3:∀ x∈R.take j,Zg x.Real k=false):R.take j++R.drop (j + 1)=R.filter fun x=>!(Zg x.Real k):=by
 have hj:=(List.getElem?_eq_some_iff.1 h1).1
 have e:R=R.take j++c :: R.drop (j + 1):=by
  have:=(List.getElem?_eq_some_iff.1 h1).2
  rw [← this,← List.drop_eq_getElem_cons hj,List.take_append_drop]
 have hsd:Srt (c :: R.drop (j + 1)):=by
  rw [e] at hs
  exact(List.pairwise_append.1 hs).2.1
 conv=>rhs; rw [e]
 rw [List.filter_append,List.filter_cons,if_neg (by rw [h2,eqHr]; decide)]
 congr 1
 ·symm
  rw [List.filter_eq_self]
  intro x hx
  rw [h3 x hx]; rfl
 ·symm
  rw [List.filter_eq_self]
  intro x hx
  have:=(List.pairwise_cons.1 hsd).1 x hx
  have hne:x.Real ≠ k:=fun e=>by rw [h2,e,swoH.irrefl] at this; cases this
  rw [eqHf.2 hne]; rfl
theorem Znf {L:TB} {R:CL} (h:Rel L R) (most:Int) (real:Zc) (flags:Int) {now:Int} (hn:Zcl now) (reply:Bool) :
  ∃ R',Zbk (mkT most R) real flags now reply=some (mkT most R')∧Rel (psd (live now L) real flags now reply) R':=by
 have hM:=h.live now
 have hinv:=Ztm hM.inv real flags now reply
 unfold Zbk
 rw [h.sweep]
 simp only [Option.bind_some]
 rw [Zjs (h.liveLen now)]
 have ix:=Zk8 (liveR now R) real
 rw [← hM.get] at ix
 have hl:=h.liveLen now
 have e:(mkT most (liveR now R)).L=liveR now R:=rfl
 cases hg:mget Zg (live now L) real with
 | none=>
  rw [hg] at ix
  simp only at ix
  have eP:psd (live now L) real flags now reply=live now L:=by unfold psd; rw [hg]
  rw [ix,eP]
  exact⟨_,rfl,hM⟩
 | some c=>
  rw [hg] at ix
  obtain⟨j,i1,i2,i3⟩:=ix
  have hj:=(List.getElem?_eq_some_iff.1 i2).1
  have ej:(liveR now R)[j]=c:=(List.getElem?_eq_some_iff.1 i2).2
  have hc:CoK c:=hM.inv.el _ (Zdv hg)
  have hcr:c.Real=real:=hM.inv.ta.real _ (Zdv hg)
  rw [i1]
  simp only [Option.bind_some,show decide ((j:Int)<0)=false from by simp,Bool.false_eq_true,if_false,e,Zbm hj,ej]
  by_cases h4:bAnd .i64 flags 4=0
  ·have eP:psd (live now L) real flags now reply=mput Zg (live now L) real (rfr (nst c flags reply) now):=by unfold psd; rw [hg]; simp only; rw [if_neg (by simp [h4])]
   rw [eP] at hinv ⊢
   rw [if_neg (by simp [h4])]
   have key:(if (bAnd .i64 flags 1 != 0)=true then some ({ c with State:=3 }:Za) else if (reply && (c.State == (1:Int)))=true then some ({ c with State:=(2:Int) }:Za) else some c)=some (nst c flags reply):=by
    unfold nst
    by_cases h1:bAnd .i64 flags 1=0
    ·simp only [h1,bne_self_eq_false,Bool.false_eq_true,if_false,ne_eq,not_true_eq_false]
     by_cases hb:reply=true∧c.State=1
     ·rw [if_pos (by simp [hb.1,hb.2]),if_pos hb]
     ·rw [if_neg (by simpa using hb),if_neg hb]
    ·rw [if_pos (by simpa using h1),if_pos h1]
   have hst:(nst c flags reply).State=1∨(nst c flags reply).State=2∨(nst c flags reply).State=3:=by
    unfold nst
    simp only
    split
    ·exact .inr (.inr rfl)
    ·split
     ·exact .inr (.inl rfl)
     ·exact hc.st
   rw [key]
   simp only [Option.bind_some]
   rw [Zhr hst hn]
   simp only [Option.bind_some]
   rw [Znv hl (fun x hx=>(hM.okR x hx).real) (show Zu (rfr (nst c flags reply) now).Real from hc.real)]
   exact⟨_,rfl,hM.put hcr hinv⟩
  ·have eP:psd (live now L) real flags now reply=mdel Zg (live now L) real:=by unfold psd; rw [hg]; simp only; rw [if_pos h4]
   rw [eP,if_pos (by simpa using h4)]
   rw [if_pos ⟨by omega,by omega,by omega⟩,Int.toNat_natCast,Int.toNat_zero,List.drop_zero]
   rw [if_pos (by unfold lim; simp only [List.length_nil,List.length_take]; omega),wsucc (by omega),if_pos ⟨by omega,by omega,Int.le_refl _⟩,Int.toNat_natCast,Int.toNat_natCast,List.take_length]
   rw [if_pos (by unfold lim; simp only [List.nil_append,List.length_take,List.length_drop]; omega)]
   refine⟨_,rfl,?_⟩
   rw [List.nil_append,Ztn hM.srt i2 hcr i3]
   exact hM.del real
end Go.AM
set_option maxRecDepth 100000
namespace Go.AM
open Go
theorem vB_iff (b:BoxR):vB b=true ↔ (b.x0.Lo≤b.x0.Hi∧b.x0.Hi≤4294967295)∧(b.x1.Lo≤b.x1.Hi∧b.x1.Hi≤4294967295)∧(b.x2.Lo≤b.x2.Hi∧b.x2.Hi≤255)∧(b.x3.Lo≤b.x3.Hi∧b.x3.Hi≤65535)∧(b.x4.Lo≤b.x4.Hi∧b.x4.Hi≤65535):=by
 have key:∀(t:Int) (r:Zj),sideBad t r=true ↔ ¬ (r.Lo≤r.Hi∧r.Hi≤t):=fun t r=>by
  unfold sideBad
  simp only [Bool.or_eq_true,decide_eq_true_eq]
  omega
 unfold vB
 simp only [key]
 by_cases h0:b.x0.Lo≤b.x0.Hi∧b.x0.Hi≤4294967295
 ·by_cases h1:b.x1.Lo≤b.x1.Hi∧b.x1.Hi≤4294967295
  ·by_cases h2:b.x2.Lo≤b.x2.Hi∧b.x2.Hi≤255
   ·by_cases h3:b.x3.Lo≤b.x3.Hi∧b.x3.Hi≤65535
    ·by_cases h4:b.x4.Lo≤b.x4.Hi∧b.x4.Hi≤65535
     ·simp [h0,h1,h2,h3,h4]
     ·simp [h0,h1,h2,h3,h4]
    ·simp [h0,h1,h2,h3]
   ·simp [h0,h1,h2]
  ·simp [h0,h1]
 ·simp [h0]
theorem cB_iff (b:BoxR) (h:Zc):cB b h=true ↔ (b.x0.Lo≤h.Src∧h.Src≤b.x0.Hi∧b.x0.Hi≤4294967295)∧(b.x1.Lo≤h.Dst∧h.Dst≤b.x1.Hi∧b.x1.Hi≤4294967295)∧(b.x2.Lo≤h.Proto∧h.Proto≤b.x2.Hi∧b.x2.Hi≤255)∧(b.x3.Lo≤h.SrcPort∧h.SrcPort≤b.x3.Hi∧b.x3.Hi≤65535)∧(b.x4.Lo≤h.DstPort∧h.DstPort≤b.x4.Hi∧b.x4.Hi≤65535):=by
 unfold cB allF
 rw [Bool.and_eq_true,vB_iff]
 have o0:outB b (hv h) 0=false ↔ (b.x0.Lo≤h.Src∧h.Src≤b.x0.Hi):=by
  show (decide (h.Src<b.x0.Lo) || decide (h.Src > b.x0.Hi))=false ↔ _
  simp only [Bool.or_eq_false_iff,decide_eq_false_iff_not]; omega
 have o1:outB b (hv h) 1=false ↔ (b.x1.Lo≤h.Dst∧h.Dst≤b.x1.Hi):=by
  show (decide (h.Dst<b.x1.Lo) || decide (h.Dst > b.x1.Hi))=false ↔ _
  simp only [Bool.or_eq_false_iff,decide_eq_false_iff_not]; omega
 have o2:outB b (hv h) 2=false ↔ (b.x2.Lo≤h.Proto∧h.Proto≤b.x2.Hi):=by
  show (decide (h.Proto<b.x2.Lo) || decide (h.Proto > b.x2.Hi))=false ↔ _
  simp only [Bool.or_eq_false_iff,decide_eq_false_iff_not]; omega
 have o3:outB b (hv h) 3=false ↔ (b.x3.Lo≤h.SrcPort∧h.SrcPort≤b.x3.Hi):=by
  show (decide (h.SrcPort<b.x3.Lo) || decide (h.SrcPort > b.x3.Hi))=false ↔ _
  simp only [Bool.or_eq_false_iff,decide_eq_false_iff_not]; omega
 have o4:outB b (hv h) 4=false ↔ (b.x4.Lo≤h.DstPort∧h.DstPort≤b.x4.Hi):=by
  show (decide (h.DstPort<b.x4.Lo) || decide (h.DstPort > b.x4.Hi))=false ↔ _
  simp only [Bool.or_eq_false_iff,decide_eq_false_iff_not]; omega
 rw [Bool.not_eq_true',Bool.or_eq_false_iff,Bool.or_eq_false_iff,Bool.or_eq_false_iff,Bool.or_eq_false_iff,o0,o1,o2,o3,o4]
 omega
def uP (h real:Zc) (c:Za):Bool:=((decide (c.To ≥ 0)) && Zg c.Delivered h) && !(Zg c.Real real)
def gUs (h real:Zc) (_:Nat) (c:Za):Option Bool:=if uP h real c=true then some true else none
theorem Zpy (h real:Zc):∀(l:CL) (i:Nat),(match findI (gUs h real) i l with | some r=>r | none=>false)=l.any (uP h real)
 | [],_=>rfl
 | x :: l,i=>by
  unfold findI gUs
  rw [List.any_cons]
  cases hx:uP h real x with
  | true=>rfl
  | false=>
   simp only [Bool.false_eq_true,if_false,Bool.false_or]
   exact Zpy h real l (i + 1)
theorem Zsx {R:CL} (hl:R.length≤64) (most:Int) (h real:Zc):Zcn (mkT most R) h real=some (R.any (uP h real)):=by
 unfold Zcn
 have e:(mkT most R).L=R:=rfl
 rw [Zdf (L:=Zay (mkT most R) h real) R (gUs h real) (by omega) (fun n i hi=>by
  rw [Zay,e,if_pos (by simp; omega),Zbm hi]
  simp only [Option.bind_some]
  rw [wsucc (by omega)]
  unfold gUs uP
  by_cases h1:R[i].To ≥ 0
  ·simp only [h1,decide_true,if_true,Option.bind_some,Bool.true_and]
   by_cases h2:Zg R[i].Delivered h=true
   ·simp only [h2,if_true,Option.bind_some,Bool.true_and]
    by_cases h3:(!(Zg R[i].Real real))=true
    ·rw [if_pos h3,if_pos h3]
    ·rw [if_neg h3,if_neg h3]
   ·have h2:=Bool.eq_false_iff.2 h2
    simp only [h2,Bool.false_eq_true,if_false,Option.bind_some,Bool.false_and]
  ·simp only [h1,decide_false,Bool.false_eq_true,if_false,Option.bind_some,Bool.false_and]) (fun n=>by rw [Zay,e,if_neg (by simp)])]
 have:=Zpy h real R 0
 cases hf:findI (gUs h real) 0 R with
 | none=>rw [hf] at this; rw [← this]; rfl
 | some r=>rw [hf] at this; rw [← this]; rfl
theorem Rel.used {L:TB} {R:CL} (h:Rel L R) (hd real:Zc):R.any (uP hd real)=usedB L real hd:=by
 unfold usedB
 rw [Bool.eq_iff_iff,List.any_eq_true,List.any_eq_true]
 constructor
 ·rintro⟨c,hc,hu⟩
  refine⟨(c.Real,c),(h.mem c).1 hc,?_⟩
  unfold uP at hu
  simp only [Bool.and_eq_true,decide_eq_true_eq] at hu
  simp only [Bool.and_eq_true,bne_iff_ne]
  exact⟨⟨hu.2,by omega⟩,hu.1.2⟩
 ·rintro⟨x,hx,hu⟩
  simp only [Bool.and_eq_true,bne_iff_ne] at hu
  have hr:=h.inv.ta.real x hx
  have hc:CoK x.2:=h.inv.el x hx
  refine⟨x.2,(h.mem _).2 (by rw [hr]; exact hx),?_⟩
  unfold uP
  simp only [Bool.and_eq_true,decide_eq_true_eq]
  have:=hc.to
  exact⟨⟨by have:=hu.1.2; omega,hu.2⟩,by rw [hr]; exact hu.1.1⟩
def cutP (b:BoxR):List BoxR:=if b.x3.Lo≤8∧8≤b.x3.Hi then
  (if b.x3.Lo<8 then [{ b with x3:=⟨b.x3.Lo,7⟩ }] else [])++(if b.x3.Hi > 8 then [{ b with x3:=⟨9,b.x3.Hi⟩ }] else [])
 else [b]
theorem Zr9 (a:Int):iMax a a=a:=by unfold iMax; simp
theorem Zsa (a:Int):iMin a a=a:=by unfold iMin; simp
theorem Zsy (a:Zj):ixr a a=a:=by cases a; simp [ixr,Zr9,Zsa]
def pcL (b r:BoxR) (k:Int):List BoxR:=if (b.get k).Lo<(r.get k).Lo then [b.set k { b.get k with Hi:=IntKind.wrap .u32 ((r.get k).Lo - 1) }] else []
def pcH (b r:BoxR) (k:Int):List BoxR:=if (b.get k).Hi > (r.get k).Hi then [b.set k { b.get k with Lo:=IntKind.wrap .u32 ((r.get k).Hi + 1) }] else []
theorem Zto (b r:BoxR) (k:Int):(pcL b r k).length≤1:=by unfold pcL; split <;> simp
theorem Ztp (b r:BoxR) (k:Int):(pcH b r k).length≤1:=by unfold pcH; split <;> simp
theorem Zht (r3:BoxR × Bool) (n:Nat) (out:List BoxR) (b:BoxR) {k:Int} (h0:0≤k) (h1:k<5) (hl:out.length≤100):Za0 r3 (n + 1) out b k=Za0 r3 n (out++pcL b r3.1 k++pcH b r3.1 k) (b.set k (r3.1.get k)) (k + 1):=by
 rw [Za0]
 simp only [show k<5 from h1,decide_true,if_true,show 0≤k∧k<5 from ⟨h0,h1⟩,and_self,wnext h0 (by omega:k<1000000),decide_eq_true_eq]
 unfold pcL pcH
 by_cases c1:(b.get k).Lo<(r3.1.get k).Lo
 ·simp only [c1,if_true]
  rw [if_pos (by unfold lim; simp only [List.length_singleton]; omega)]
  simp only [Option.bind_some]
  by_cases c2:(b.get k).Hi > (r3.1.get k).Hi
  ·simp only [c2,if_true]
   rw [if_pos (by unfold lim; simp only [List.length_append,List.length_singleton]; omega)]
   rfl
  ·simp only [c2,if_false,Option.bind_some,List.append_nil]
 ·simp only [c1,if_false,Option.bind_some,List.append_nil]
  by_cases c2:(b.get k).Hi > (r3.1.get k).Hi
  ·simp only [c2,if_true]
   rw [if_pos (by unfold lim; simp only [List.length_singleton]; omega)]
   rfl
  ·simp only [c2,if_false,Option.bind_some,List.append_nil]
theorem sub8 {b:BoxR} (hb:vB b=true) (h0:0≤b.x3.Lo):Zdc b { b with x3:=⟨8,8⟩ }=some (cutP b):=by
 unfold Zdc
 rw [Zfp,Zop,hb]
 simp only [Option.bind_some,Bool.not_true,Bool.false_eq_true,if_false]
 have hv:=(vB_iff b).1 hb
 have e8:isect b { b with x3:=⟨8,8⟩ }={ b with x3:=⟨iMax b.x3.Lo 8,iMin b.x3.Hi 8⟩ }:=by
  unfold isect
  simp only [Zsy]
  rfl
 have hv8:vB ({ b with x3:=⟨8,8⟩ }:BoxR)=true:=by
  rw [vB_iff]
  simp only
  omega
 unfold xB cutP
 rw [hb,hv8,e8]
 simp only [Bool.true_and]
 by_cases h8:b.x3.Lo≤8∧8≤b.x3.Hi
 ·have m1:iMax b.x3.Lo 8=8:=by unfold iMax; split <;> omega
  have m2:iMin b.x3.Hi 8=8:=by unfold iMin; split <;> omega
  rw [m1,m2,hv8,if_pos rfl,if_pos h8]
  simp only [Bool.not_true,Bool.false_eq_true,if_false]
  rw [fuel6]
  have s0:∀(c r:BoxR) (k:Int),c.get k=r.get k→pcL c r k=[]∧pcH c r k=[]:=fun c r k he=>by
   unfold pcL pcH
   rw [he]
   exact⟨if_neg (by omega),if_neg (by omega)⟩
  rw [Zht _ _ _ _ (by omega) (by omega) (by simp)]
  obtain⟨a1,a2⟩:=s0 b { b with x3:=⟨8,8⟩ } 0 rfl
  rw [a1,a2,show (b.set 0 (({ b with x3:=⟨8,8⟩ }:BoxR).get 0))=b from rfl]
  rw [Zht _ _ _ _ (by omega) (by omega) (by simp)]
  obtain⟨a1,a2⟩:=s0 b { b with x3:=⟨8,8⟩ } (0 + 1) rfl
  rw [a1,a2,show (b.set (0 + 1) (({ b with x3:=⟨8,8⟩ }:BoxR).get (0 + 1)))=b from rfl]
  rw [Zht _ _ _ _ (by omega) (by omega) (by simp)]
  obtain⟨a1,a2⟩:=s0 b { b with x3:=⟨8,8⟩ } (0 + 1 + 1) rfl
  rw [a1,a2,show (b.set (0 + 1 + 1) (({ b with x3:=⟨8,8⟩ }:BoxR).get (0 + 1 + 1)))=b from rfl]
  rw [Zht _ _ _ _ (by omega) (by omega) (by simp)]
  rw [show (b.set (0 + 1 + 1 + 1) (({ b with x3:=⟨8,8⟩ }:BoxR).get (0 + 1 + 1 + 1)))={ b with x3:=⟨8,8⟩ } from rfl]
  have pl:pcL b ({ b with x3:=⟨8,8⟩ }:BoxR) (0 + 1 + 1 + 1)=if b.x3.Lo<8 then [{ b with x3:=⟨b.x3.Lo,7⟩ }] else []:=rfl
  have ph:pcH b ({ b with x3:=⟨8,8⟩ }:BoxR) (0 + 1 + 1 + 1)=if b.x3.Hi > 8 then [{ b with x3:=⟨9,b.x3.Hi⟩ }] else []:=rfl
  have l1:=Zto b ({ b with x3:=⟨8,8⟩ }:BoxR) (0 + 1 + 1 + 1)
  have l2:=Ztp b ({ b with x3:=⟨8,8⟩ }:BoxR) (0 + 1 + 1 + 1)
  simp only [List.nil_append,List.append_nil]
  rw [Zht _ _ _ _ (by omega) (by omega) (by rw [List.length_append]; omega)]
  obtain⟨a1,a2⟩:=s0 { b with x3:=⟨8,8⟩ } { b with x3:=⟨8,8⟩ } (0 + 1 + 1 + 1 + 1) rfl
  rw [a1,a2,pl,ph,Za0]
  simp only [List.append_nil]
  rfl
 ·have hn:vB ({ b with x3:=⟨iMax b.x3.Lo 8,iMin b.x3.Hi 8⟩ }:BoxR)=false:=by
   rw [← Bool.not_eq_true,vB_iff]
   simp only
   unfold iMax iMin
   split <;> split <;> omega
  rw [hn,if_neg h8]
  rfl
def rcand (hides:List Zp) (real:Zc):List BoxR:=if mH hides real<0 then [ofB (hv real)] else
 match hides[(mH hides real).toNat]? with
 | some m=>if real.Proto=6∨real.Proto=17 then [hdB m real] else if real.Proto=1 then cutP (hdB m real) else [{ hdB m real with x3:=⟨0,0⟩ }]
 | none=>[]
theorem Zk3 {m:Zp} (hm:Zbg m) (hv1:vH m=true) {real:Zc} (hr:Zu real):vB (tgtB m (ofB (hv real)))=true∧0≤(tgtB m (ofB (hv real))).x3.Lo:=by
 obtain⟨_,a2,⟨a3,_,_⟩,_⟩:=hm
 obtain⟨r1,r2,r3,r4,r5,_⟩:=hr
 unfold Zc9 at a2 a3 r1 r2; unfold ok_u8 at r3; unfold Zcq at r4 r5
 unfold vH at hv1
 simp only [Bool.and_eq_true,decide_eq_true_eq] at hv1
 refine⟨?_,a3.1⟩
 rw [vB_iff]
 unfold tgtB ofB hv
 simp only
 omega
theorem Zsz {hides:List Zp} (ho:∀ m∈hides,Zbg m) {real:Zc} (hh:Zu real) (hl:hides.length≤1000000000000):Zbw hides real=some (rcand hides real):=by
 unfold Zbw rcand
 rw [Zoq hh hl]
 simp only [Option.bind_some]
 by_cases hn:mH hides real<0
 ·rw [if_pos (by simpa using hn),if_pos hn,rOf_eq hh]; rfl
 ·rw [if_neg (by simpa using hn),if_neg hn]
  obtain⟨j,m,h1,h2,h3,h4⟩:=Zi4 hn
  rw [h2,Int.toNat_natCast,h1]
  have hj:=(List.getElem?_eq_some_iff.1 h1).1
  rw [Zbm hj]
  have e:hides[j]=m:=(List.getElem?_eq_some_iff.1 h1).2
  simp only [Option.bind_some,e,Zq3 hh]
  have eb:hdB m real=tgtB m (ofB (hv real)):=by unfold hdB; rw [if_pos (by rw [h3,h4]; rfl)]
  obtain⟨v1,v2⟩:=Zk3 (ho m (List.mem_of_getElem? h1)) h3 hh
  rw [eb]
  generalize tgtB m (ofB (hv real))=b at v1 v2 ⊢
  by_cases p6:real.Proto=6
  ·simp [p6]
  ·by_cases p17:real.Proto=17
   ·simp [p17]
   ·by_cases p1:real.Proto=1
    ·have hs:=sub8 v1 v2
     have hw:Zdi b 8=some { b with x3:=⟨8,8⟩ }:=rfl
     simp only [p1,show ((1:Int) == 6)=false from rfl,show ((1:Int) == 17)=false from rfl,Bool.false_eq_true,if_false,Option.bind_some,beq_self_eq_true,if_true,hw,hs]
     rfl
    ·have hw:Zdi b 0=some { b with x3:=⟨0,0⟩ }:=rfl
     have q6:(real.Proto == 6)=false:=by simpa using p6
     have q17:(real.Proto == 17)=false:=by simpa using p17
     have q1:(real.Proto == 1)=false:=by simpa using p1
     simp only [q6,q17,q1,Bool.false_eq_true,if_false,Option.bind_some,hw,p6,p17,p1,or_self]
theorem Zq8 {c:Za} (hc:Zu c.Delivered) (edge:Int) (l:List BoxR) (hl:l.length≤1000):Zaf c edge l fuel 0=some (if l.any (fun x=>(c.To == edge) && cB x c.Delivered)=true then .inr (c.Delivered,true) else .inl ()):=by
 rw [Zdf (L:=Zaf c edge l) l (fun _ x=>if ((c.To == edge) && cB x c.Delivered)=true then some (c.Delivered,true) else none) (by omega) (fun n i hi=>by
  rw [Zaf,if_pos (by simp; omega),Zbm hi]
  simp only [Option.bind_some,Zho hc]
  rw [wsucc (by omega)]
  by_cases h1:(c.To == edge)=true
  ·simp only [h1,if_true,Option.bind_some,Bool.true_and]
   by_cases h2:cB l[i] c.Delivered=true
   ·rw [if_pos h2,if_pos h2]
   ·rw [if_neg h2,if_neg h2]
  ·have h1:=Bool.eq_false_iff.2 h1
   simp only [h1,Bool.false_eq_true,if_false,Option.bind_some,Bool.false_and]) (fun n=>by rw [Zaf,if_neg (by simp)])]
 have em:∀(l:List BoxR) (i:Nat),findI (fun(_:Nat) (x:BoxR)=>if ((c.To == edge) && cB x c.Delivered)=true then some (c.Delivered,true) else none) i l=if l.any (fun x=>(c.To == edge) && cB x c.Delivered)=true then some (c.Delivered,true) else none:=by
  intro l
  induction l with
  | nil=>intro i; rfl
  | cons x l ih=>
   intro i
   unfold findI
   rw [List.any_cons]
   by_cases h:((c.To == edge) && cB x c.Delivered)=true
   ·rw [if_pos h,h]; rfl
   ·rw [if_neg h,Bool.eq_false_iff.2 h,Bool.false_or]
    exact ih (i + 1)
 rw [em]
 split <;> rfl
theorem wu8' {x:Int} (h0:0≤x) (h1:x<256):IntKind.wrap .u8 x=x:=by
 simp only [IntKind.wrap,IntKind.bits,IntKind.signed]
 simp
 omega
structure OfH (real:Zc) (x:BoxR):Prop where
 d:x.x1.Lo=real.Dst
 p:x.x2.Lo=real.Proto
 t:x.x4.Lo=real.DstPort
 lo:0≤x.x3.Lo
 hi:x.x3.Hi≤65535
def srB (q:Zc→Bool) (real:Zc) (x:BoxR):Option Int:=srch (fun v=>!(q (hdrB real x v))) (x.x3.Hi + 1 - x.x3.Lo).toNat x.x3.Lo
theorem Zng {R:CL} (hl:R.length≤64) (most:Int) {c:Za} (hr:Zu c.Real) {l:List BoxR} {i:Nat} (hi:i<l.length) (hb:OfH c.Real l[i]):∀(n m:Nat) (v:Int),0≤v→(l[i].x3.Hi + 1 - v).toNat=n→n<m →
  Zap (mkT most R) c l (i:Int) l[i] m v=some (match srch (fun v=>!(R.any (uP (hdrB c.Real l[i] v) c.Real))) n v with
   | none=>.inl ()
   | some u=>.inr (hdrB c.Real l[i] u,true))
 | 0,m,v,h0,hn,hm=>by
  obtain⟨m,rfl⟩:∃ k,m=k + 1:=⟨m - 1,by omega⟩
  rw [Zap,if_neg (by simp; omega)]; rfl
 | n + 1,m,v,h0,hn,hm=>by
  obtain⟨m,rfl⟩:∃ k,m=k + 1:=⟨m - 1,by omega⟩
  have hh:=hb.hi
  rw [Zap,if_pos (by simp; omega),Zbm hi]
  simp only [Option.bind_some]
  obtain⟨_,_,r3,_,r5,_⟩:=hr
  unfold ok_u8 at r3; unfold Zcq at r5
  have e:Zc.mk l[i].x0.Lo l[i].x1.Lo (IntKind.wrap .u8 l[i].x2.Lo) (IntKind.wrap .u16 v) (IntKind.wrap .u16 l[i].x4.Lo)=hdrB c.Real l[i] v:=by
   rw [hb.d,hb.p,hb.t,wu8' (by omega) (by omega),wu16' h0 (by omega),wu16' (by omega) (by omega)]; rfl
  rw [e,Zsx hl]
  simp only [Option.bind_some]
  unfold srch
  by_cases hu:(!(R.any (uP (hdrB c.Real l[i] v) c.Real)))=true
  ·rw [if_pos hu,if_pos hu]
  ·rw [if_neg hu,if_neg hu,wu32 (x:=v + 1) (by omega) (by omega)]
   exact Zng hl most ⟨by assumption,by assumption,by unfold ok_u8; omega,by assumption,by unfold Zcq; omega,trivial⟩ hi hb n m (v + 1) (by omega) (by omega) (by omega)
def chs (R:CL) (c:Za) (edge:Int) (l:List BoxR):Zc × Bool:=
 if l.any (fun x=>(c.To == edge) && cB x c.Delivered)=true then (c.Delivered,true) else
 match l.findSome? (fun x=>(srB (fun h=>R.any (uP h c.Real)) c.Real x).map fun u=>hdrB c.Real x u) with
 | none=>(zH,false)
 | some h=>(h,true)
theorem Zsb {R:CL} (hl:R.length≤64) (most:Int) {c:Za} (hr:Zu c.Real) (hd:Zu c.Delivered) (edge:Int) {l:List BoxR} (hll:l.length≤1000) (hb:∀ x∈l,OfH c.Real x):Zbj (mkT most R) c edge l=some (chs R c edge l):=by
 unfold Zbj chs
 rw [Zq8 hd edge l hll]
 by_cases h1:l.any (fun x=>(c.To == edge) && cB x c.Delivered)=true
 ·rw [if_pos h1,if_pos h1]; rfl
 ·rw [if_neg h1,if_neg h1]
  simp only [Option.bind_some]
  rw [Zdf (L:=Zaq (mkT most R) c l) l (fun _ x=>(srB (fun h=>R.any (uP h c.Real)) c.Real x).map fun u=>(hdrB c.Real x u,true)) (by omega) (fun n i hi=>by
   rw [Zaq,if_pos (by simp; omega),Zbm hi]
   simp only [Option.bind_some]
   have hbi:=hb l[i] (List.getElem_mem hi)
   rw [Zng hl most hr hi hbi _ fuel l[i].x3.Lo hbi.lo rfl (by have:=hbi.hi; have:=hbi.lo; unfold fuel; omega),wsucc (by omega)]
   simp only [Option.bind_some]
   unfold srB
   cases srch (fun v=>!(R.any (uP (hdrB c.Real l[i] v) c.Real))) (l[i].x3.Hi + 1 - l[i].x3.Lo).toNat l[i].x3.Lo <;> rfl) (fun n=>by rw [Zaq,if_neg (by simp)])]
  have em:∀(l:List BoxR) (i:Nat),findI (fun(_:Nat) (x:BoxR)=>(srB (fun h=>R.any (uP h c.Real)) c.Real x).map fun u=>(hdrB c.Real x u,true)) i l=(l.findSome? (fun x=>(srB (fun h=>R.any (uP h c.Real)) c.Real x).map fun u=>hdrB c.Real x u)).map fun h=>(h,true):=by
   intro l
   induction l with
   | nil=>intro i; rfl
   | cons x l ih=>
    intro i
    unfold findI
    rw [List.findSome?_cons]
    cases hs:srB (fun h=>R.any (uP h c.Real)) c.Real x with
    | none=>simp only [Option.map_none]; exact ih (i + 1)
    | some u=>rfl
  rw [em]
  cases l.findSome? (fun x=>(srB (fun h=>R.any (uP h c.Real)) c.Real x).map fun u=>hdrB c.Real x u) <;> rfl
end Go.AM
set_option maxRecDepth 100000
namespace Go.AM
open Go
theorem Zg3 {p q:Int→Bool}:∀(n:Nat) (v:Int),(∀ u,v≤u→u<v + n→p u=q u)→srch p n v=srch q n v
 | 0,_,_=>rfl
 | n + 1,v,h=>by
  unfold srch
  rw [h v (Int.le_refl _) (by omega),Zg3 n (v + 1) fun u h1 h2=>h u (by omega) (by omega)]
theorem Zk4 (p:Int→Bool) (n:Nat) (v:Int):srch p (n + 1) v=if p v=true then some v else srch p n (v + 1):=rfl
theorem Zpz (p:Int→Bool):∀(n1 n2:Nat) (v:Int),srch p (n1 + n2) v=match srch p n1 v with
  | some u=>some u
  | none=>srch p n2 (v + n1)
 | 0,n2,v=>by simp [srch]
 | n1 + 1,n2,v=>by
  rw [show n1 + 1 + n2=(n1 + n2) + 1 by omega,Zk4,Zk4]
  by_cases h:p v=true
  ·rw [if_pos h,if_pos h]
  ·rw [if_neg h,if_neg h,Zpz p n1 n2 (v + 1)]
   cases srch p n1 (v + 1) with
   | none=>
    have e:v + 1 + (n1:Int)=v + ((n1 + 1:Nat):Int):=by omega
    simp only [e]
   | some u=>rfl
theorem Zqt {L:TB} {R:CL} (h:Rel L R) {c:Za} {edge:Int} {hides:List Zp} (ha:∀ v,allowB c.Real (decide (mH hides c.Real ≥ 0)) v=true):chs R c edge [candB hides c.Real]=dlv L c edge hides:=by
 unfold chs dlv srB
 simp only [List.any_cons,List.any_nil,Bool.or_false,ha,Bool.and_true,List.findSome?_cons,List.findSome?_nil]
 have e:(fun v=>!(R.any (uP (hdrB c.Real (candB hides c.Real) v) c.Real)))=fun v=>!(usedB L c.Real (hdrB c.Real (candB hides c.Real) v)):=by
  funext v; rw [h.used]
 rw [e]
 by_cases h1:((c.To == edge) && cB (candB hides c.Real) c.Delivered)=true
 ·rw [if_pos h1,if_pos h1]
 ·rw [if_neg h1,if_neg h1]
  cases srch (fun v=>!(usedB L c.Real (hdrB c.Real (candB hides c.Real) v))) ((candB hides c.Real).x3.Hi + 1 - (candB hides c.Real).x3.Lo).toNat (candB hides c.Real).x3.Lo <;> rfl
theorem Ztq {b:BoxR} (hb:vB b=true) (d:Zc) (t:Bool):(cutP b).any (fun x=>t && cB x d)=((t && cB b d) && (d.SrcPort != 8)):=by
 cases t with
 | false=>simp
 | true=>
  have hv:=(vB_iff b).1 hb
  simp only [Bool.true_and]
  rw [Bool.eq_iff_iff,List.any_eq_true,Bool.and_eq_true,cB_iff,bne_iff_ne]
  unfold cutP
  by_cases h8:b.x3.Lo≤8∧8≤b.x3.Hi
  ·rw [if_pos h8]
   constructor
   ·rintro⟨x,hx,hc⟩
    rw [cB_iff] at hc
    rcases List.mem_append.1 hx with hx | hx
    ·by_cases hl:b.x3.Lo<8
     ·rw [if_pos hl,List.mem_singleton] at hx
      subst hx
      simp only at hc
      omega
     ·rw [if_neg hl] at hx; cases hx
    ·by_cases hl:b.x3.Hi > 8
     ·rw [if_pos hl,List.mem_singleton] at hx
      subst hx
      simp only at hc
      omega
     ·rw [if_neg hl] at hx; cases hx
   ·rintro⟨hc,hne⟩
    by_cases hs:d.SrcPort<8
    ·refine⟨{ b with x3:=⟨b.x3.Lo,7⟩ },List.mem_append_left _ (by rw [if_pos (by omega)]; exact List.mem_singleton.2 rfl),?_⟩
     rw [cB_iff]
     simp only
     omega
    ·refine⟨{ b with x3:=⟨9,b.x3.Hi⟩ },List.mem_append_right _ (by rw [if_pos (by omega)]; exact List.mem_singleton.2 rfl),?_⟩
     rw [cB_iff]
     simp only
     omega
  ·rw [if_neg h8]
   constructor
   ·rintro⟨x,hx,hc⟩
    rw [List.mem_singleton] at hx
    subst hx
    rw [cB_iff] at hc
    exact⟨hc,by omega⟩
   ·rintro⟨hc,_⟩
    exact⟨b,List.mem_singleton.2 rfl,by rw [cB_iff]; exact hc⟩
theorem Zs0 {b:BoxR} (q:Zc→Bool) (real:Zc):(cutP b).findSome? (fun x=>(srB q real x).map fun u=>hdrB real x u)=(srch (fun v=>!(q (hdrB real b v)) && (v != 8)) (b.x3.Hi + 1 - b.x3.Lo).toNat b.x3.Lo).map fun u=>hdrB real b u:=by
 have same:∀ r:Zj,srB q real { b with x3:=r }=srch (fun v=>!(q (hdrB real b v))) (r.Hi + 1 - r.Lo).toNat r.Lo:=fun _=>rfl
 have hh:∀(r:Zj) (u:Int),hdrB real { b with x3:=r } u=hdrB real b u:=fun _ _=>rfl
 unfold cutP
 by_cases h8:b.x3.Lo≤8∧8≤b.x3.Hi
 ·rw [if_pos h8]
  rw [show (b.x3.Hi + 1 - b.x3.Lo).toNat=(8 - b.x3.Lo).toNat + ((b.x3.Hi - 8).toNat + 1) by omega,Zpz]
  have e1:srch (fun v=>!(q (hdrB real b v)) && (v != 8)) (8 - b.x3.Lo).toNat b.x3.Lo=srch (fun v=>!(q (hdrB real b v))) (8 - b.x3.Lo).toNat b.x3.Lo:=Zg3 _ _ fun u h1 h2=>by
   have:(u != 8)=true:=by rw [bne_iff_ne]; omega
   rw [this,Bool.and_true]
  have e2:srch (fun v=>!(q (hdrB real b v)) && (v != 8)) ((b.x3.Hi - 8).toNat + 1) (b.x3.Lo + ((8 - b.x3.Lo).toNat:Int))=srch (fun v=>!(q (hdrB real b v))) (b.x3.Hi - 8).toNat 9:=by
   rw [show b.x3.Lo + ((8 - b.x3.Lo).toNat:Int)=8 by omega]
   rw [Zk4,if_neg (by simp)]
   exact Zg3 _ _ fun u h1 h2=>by
    have:(u != 8)=true:=by rw [bne_iff_ne]; omega
    rw [this,Bool.and_true]
  rw [e1,e2,List.findSome?_append]
  have lo:(if b.x3.Lo<8 then [({ b with x3:=⟨b.x3.Lo,7⟩ }:BoxR)] else []).findSome? (fun x=>(srB q real x).map fun u=>hdrB real x u)=(srch (fun v=>!(q (hdrB real b v))) (8 - b.x3.Lo).toNat b.x3.Lo).map fun u=>hdrB real b u:=by
   by_cases hl:b.x3.Lo<8
   ·rw [if_pos hl,List.findSome?_cons,same]
    simp only [show ((7:Int) + 1 - b.x3.Lo)=8 - b.x3.Lo by omega]
    cases srch (fun v=>!(q (hdrB real b v))) (8 - b.x3.Lo).toNat b.x3.Lo <;> rfl
   ·rw [if_neg hl,show (8 - b.x3.Lo).toNat=0 by omega]; rfl
  have hi:(if b.x3.Hi > 8 then [({ b with x3:=⟨9,b.x3.Hi⟩ }:BoxR)] else []).findSome? (fun x=>(srB q real x).map fun u=>hdrB real x u)=(srch (fun v=>!(q (hdrB real b v))) (b.x3.Hi - 8).toNat 9).map fun u=>hdrB real b u:=by
   by_cases hl:b.x3.Hi > 8
   ·rw [if_pos hl,List.findSome?_cons,same]
    simp only [show (b.x3.Hi + 1 - 9)=b.x3.Hi - 8 by omega]
    cases srch (fun v=>!(q (hdrB real b v))) (b.x3.Hi - 8).toNat 9 <;> rfl
   ·rw [if_neg hl,show (b.x3.Hi - 8).toNat=0 by omega]; rfl
  rw [lo,hi]
  cases srch (fun v=>!(q (hdrB real b v))) (8 - b.x3.Lo).toNat b.x3.Lo <;> rfl
 ·rw [if_neg h8,List.findSome?_cons]
  have e:srB q real b=srch (fun v=>!(q (hdrB real b v)) && (v != 8)) (b.x3.Hi + 1 - b.x3.Lo).toNat b.x3.Lo:=Zg3 _ _ fun u h1 h2=>by
   have:(u != 8)=true:=by rw [bne_iff_ne]; omega
   rw [this,Bool.and_true]
  rw [e]
  cases srch (fun v=>!(q (hdrB real b v)) && (v != 8)) (b.x3.Hi + 1 - b.x3.Lo).toNat b.x3.Lo <;> rfl
theorem Ztr {L:TB} {R:CL} (h:Rel L R) {c:Za} (hc:CoK c) (edge:Int) {hides:List Zp} (ho:∀ m∈hides,Zbg m):chs R c edge (rcand hides c.Real)=dlv L c edge hides:=by
 by_cases hn:mH hides c.Real<0
 ·have e1:rcand hides c.Real=[candB hides c.Real]:=by unfold rcand candB; rw [if_pos hn,if_pos hn]
  rw [e1]
  exact Zqt h fun v=>by unfold allowB; rw [show decide (mH hides c.Real ≥ 0)=false by simpa using hn]; rfl
 ·obtain⟨j,m,h1,h2,h3,h4⟩:=Zi4 hn
  have hid:decide (mH hides c.Real ≥ 0)=true:=by simp; omega
  have g1:hides[(mH hides c.Real).toNat]? = some m:=by rw [h2,Int.toNat_natCast]; exact h1
  by_cases p1:c.Real.Proto=1
  ·have e1:rcand hides c.Real=cutP (candB hides c.Real):=by
    unfold rcand candB
    rw [if_neg hn,if_neg hn,g1]
    simp only [p1]
    simp
   have eb:hdB m c.Real=tgtB m (ofB (hv c.Real)):=by unfold hdB; rw [if_pos (by rw [h3,h4]; rfl)]
   have e2:candB hides c.Real=tgtB m (ofB (hv c.Real)):=by
    unfold candB
    rw [if_neg hn,g1]
    simp only
    rw [if_pos (.inr (.inr p1)),eb]
   have hvb:vB (candB hides c.Real)=true:=by
    rw [e2]
    exact(Zk3 (ho m (List.mem_of_getElem? h1)) h3 hc.real).1
   rw [e1]
   unfold chs dlv
   rw [Ztq hvb,Zs0]
   have ha:∀ v,allowB c.Real (decide (mH hides c.Real ≥ 0)) v=(v != 8):=fun v=>by unfold allowB; rw [hid,p1]; rfl
   simp only [ha]
   have e:(fun v=>!(R.any (uP (hdrB c.Real (candB hides c.Real) v) c.Real)) && (v != 8))=fun v=>!(usedB L c.Real (hdrB c.Real (candB hides c.Real) v)) && (v != 8):=by
    funext v; rw [h.used]
   rw [e]
   by_cases hx:(((c.To == edge) && cB (candB hides c.Real) c.Delivered) && (c.Delivered.SrcPort != 8))=true
   ·rw [if_pos hx,if_pos hx]
   ·rw [if_neg hx,if_neg hx]
    cases srch (fun v=>!(usedB L c.Real (hdrB c.Real (candB hides c.Real) v)) && (v != 8)) ((candB hides c.Real).x3.Hi + 1 - (candB hides c.Real).x3.Lo).toNat (candB hides c.Real).x3.Lo <;> rfl
  ·have e1:rcand hides c.Real=[candB hides c.Real]:=by
    unfold rcand candB
    rw [if_neg hn,if_neg hn,g1]
    simp only
    by_cases p6:c.Real.Proto=6
    ·simp [p6]
    ·by_cases p17:c.Real.Proto=17
     ·simp [p17]
     ·simp [p6,p17,p1]
   rw [e1]
   exact Zqt h fun v=>by
    unfold allowB
    have:(c.Real.Proto != 1)=true:=by simpa using p1
    rw [this]; simp
theorem Zs1 {hides:List Zp} (ho:∀ m∈hides,Zbg m) {real:Zc} (hr:Zu real):(rcand hides real).length≤1000∧∀ x∈rcand hides real,OfH real x:=by
 have hr':=hr
 obtain⟨_,_,_,r4,_⟩:=hr'
 unfold Zcq at r4
 unfold rcand
 by_cases hn:mH hides real<0
 ·rw [if_pos hn]
  refine⟨by simp,fun x hx=>?_⟩
  rw [List.mem_singleton] at hx
  subst hx
  exact⟨rfl,rfl,rfl,r4.1,by show real.SrcPort≤65535; omega⟩
 ·rw [if_neg hn]
  obtain⟨j,m,h1,h2,h3,h4⟩:=Zi4 hn
  rw [h2,Int.toNat_natCast,h1]
  simp only
  have eb:hdB m real=tgtB m (ofB (hv real)):=by unfold hdB; rw [if_pos (by rw [h3,h4]; rfl)]
  obtain⟨v1,v2⟩:=Zk3 (ho m (List.mem_of_getElem? h1)) h3 hr
  have v3:=((vB_iff _).1 v1).2.2.2.1
  rw [eb]
  have base:OfH real (tgtB m (ofB (hv real))):=⟨rfl,rfl,rfl,v2,v3.2⟩
  have sub:∀ r:Zj,0≤r.Lo→r.Hi≤65535→OfH real { tgtB m (ofB (hv real)) with x3:=r }:=fun r h1 h2=>⟨rfl,rfl,rfl,h1,h2⟩
  split
  ·exact⟨by simp,fun x hx=>by rw [List.mem_singleton] at hx; subst hx; exact base⟩
  ·split
   ·unfold cutP
    split
    ·refine⟨?_,fun x hx=>?_⟩
     ·rw [List.length_append]
      split <;> split <;> simp
     ·rcases List.mem_append.1 hx with hx | hx
      ·split at hx
       ·rw [List.mem_singleton] at hx; subst hx
        exact sub _ v2 (by show (7:Int)≤65535; decide)
       ·cases hx
      ·split at hx
       ·rw [List.mem_singleton] at hx; subst hx
        exact sub _ (by show (0:Int)≤9; decide) v3.2
       ·cases hx
    ·exact⟨by simp,fun x hx=>by rw [List.mem_singleton] at hx; subst hx; exact base⟩
   ·exact⟨by simp,fun x hx=>by rw [List.mem_singleton] at hx; subst hx; exact sub _ (by show (0:Int)≤0; decide) (by show (0:Int)≤65535; decide)⟩
theorem Zq9 {L:TB} {R:CL} (h:Rel L R) {most:Int} (hm:most≤64) (edge:Int) {real:Zc} (hr:Zu real) (cls:ByteArray) {hides:List Zp} (ho:∀ m∈hides,Zbg m) (hl:hides.length≤1000000000000) (opens:Bool) {now:Int} (hn:Zcl now) :
  ∃ R',Zb5 (mkT most R) edge real cls hides opens now=some ((egr most L edge real cls hides opens now).1,(egr most L edge real cls hides opens now).2.1,mkT most R')∧Rel (egr most L edge real cls hides opens now).2.2 R':=by
 have hM:=h.live now
 have hinv:=Ztg h.inv hm edge hr cls ho opens now
 unfold Zb5
 rw [h.sweep]
 simp only [Option.bind_some,Zns hl]
 by_cases hbad:(decide (edge<0) || !(vHs hides))=true
 ·have eI:egr most L edge real cls hides opens now=(zH,1,live now L):=by unfold egr; rw [if_pos hbad]
  rw [eI]
  refine⟨_,?_,hM⟩
  by_cases h1:edge<0
  ·simp only [h1,decide_true,if_true,Option.bind_some]; rfl
  ·simp only [h1,decide_false,Bool.false_or] at hbad
   simp only [h1,decide_false,Bool.false_eq_true,if_false,Option.bind_some,hbad,if_true]; rfl
 ·have h1:¬ edge<0:=fun h1=>hbad (by simp [h1])
  have hvh:(!(vHs hides))=false:=by
   rw [Bool.or_eq_true,not_or] at hbad
   exact Bool.eq_false_iff.2 hbad.2
  have he0:0≤edge:=by omega
  simp only [h1,decide_false,Bool.false_eq_true,if_false,Option.bind_some,hvh]
  rw [Zjt (h.liveLen now),Zmc hM (·.To)]
  simp only [Option.bind_some]
  have main:∀ c:Za,CoK c→c.Real=real→entP (·.To) most (live now L) real opens=(c,0) →
    ∃ R',((Zbw hides real).bind fun r15=>(Zbj (mkT most (liveR now R)) c edge r15).bind fun r17=>
     if (!r17.2)=true then some ((Zc.mk (0:Int) (0:Int) (0:Int) (0:Int) (0:Int)),(9:Int),mkT most (liveR now R)) else
     (Zac { c with To:=edge,Delivered:=r17.1,Class:=cls } now).bind fun r19=>(Zad (mkT most (liveR now R)) r19).bind fun r21=>some (r17.1,(0:Int),r21)) =
     some ((egr most L edge real cls hides opens now).1,(egr most L edge real cls hides opens now).2.1,mkT most R')∧Rel (egr most L edge real cls hides opens now).2.2 R':=fun c hc hcr hE=>by
   obtain⟨k1,k2⟩:=Zs1 ho hr
   rw [Zsz ho hr hl]
   simp only [Option.bind_some]
   rw [Zsb (h.liveLen now) most hc.real hc.del edge k1 (by rw [hcr]; exact k2)]
   have hcd:chs (liveR now R) c edge (rcand hides real)=dlv (live now L) c edge hides:=by rw [← hcr]; exact Ztr hM hc edge ho
   rw [hcd]
   simp only [Option.bind_some]
   by_cases hd:(dlv (live now L) c edge hides).2=false
   ·have eI:egr most L edge real cls hides opens now=(zH,9,live now L):=by
     unfold egr; rw [if_neg hbad,hE,if_neg (by simp),if_pos hd]
    rw [eI,hd]
    exact⟨_,rfl,hM⟩
   ·have hd:=(Bool.not_eq_false _).mp hd
    have eI:egr most L edge real cls hides opens now=((dlv (live now L) c edge hides).1,0,mput Zg (live now L) c.Real (rfr { c with To:=edge,Delivered:=(dlv (live now L) c edge hides).1,Class:=cls } now)):=by
     unfold egr; rw [if_neg hbad,hE,if_neg (by simp),if_neg (by simp [hd])]
    rw [eI] at hinv ⊢
    rw [hd]
    simp only [Bool.not_true,Bool.false_eq_true,if_false]
    rw [Zhr (c:={ c with To:=edge,Delivered:=(dlv (live now L) c edge hides).1,Class:=cls }) hc.st hn]
    simp only [Option.bind_some]
    rw [Znv (h.liveLen now) (fun x hx=>(hM.okR x hx).real) (show Zu (rfr { c with To:=edge,Delivered:=(dlv (live now L) c edge hides).1,Class:=cls } now).Real from hc.real)]
    exact⟨_,rfl,hM.put rfl hinv⟩
  cases hg:mget Zg (live now L) real with
  | none=>
   simp only
   by_cases h2:(entP (·.To) most (live now L) real opens).2=0
   ·obtain⟨c1,c2,c3⟩:=Zf9 hM.inv hm hr h2
    have hop:opens=true:=by
     cases opens with
     | true=>rfl
     | false=>unfold entP at h2; rw [hg] at h2; simp at h2
    rw [if_neg (by simp [h2]),if_neg (by simp [hop])]
    exact main _ c1 c2 (by rw [← h2])
   ·have eI:egr most L edge real cls hides opens now=(zH,(entP (·.To) most (live now L) real opens).2,live now L):=by
     unfold egr; rw [if_neg hbad,if_pos h2]
    rw [eI,if_pos (by simpa using h2)]
    exact⟨_,rfl,hM⟩
  | some c=>
   have hc:CoK c:=hM.inv.el _ (Zdv hg)
   have hcr:c.Real=real:=hM.inv.ta.real _ (Zdv hg)
   have hto:=hc.to
   have hfe:(c.To == -1)=decide (c.To<0):=by
    rw [Bool.eq_iff_iff,beq_iff_eq,decide_eq_true_eq]
    omega
   simp only
   rw [if_neg (by decide)]
   by_cases h3:(decide (c.To<0) && !opens)=true
   ·have eE:entP (·.To) most (live now L) real opens=(zC,16):=by
     unfold entP; rw [hg]; simp only; rw [hfe,Bool.and_comm,if_pos h3]
    have eI:egr most L edge real cls hides opens now=(zH,16,live now L):=by
     unfold egr; rw [if_neg hbad,eE,if_pos (by decide)]
    rw [eI,if_pos h3]
    exact⟨_,rfl,hM⟩
   ·have eE:entP (·.To) most (live now L) real opens=(c,0):=by
     unfold entP; rw [hg]; simp only; rw [hfe,Bool.and_comm,if_neg h3]
    rw [if_neg h3]
    exact main c hc hcr eE
end Go.AM
set_option maxRecDepth 100000
namespace Go.AM
open Go
theorem Zp0 (c:Za):Zb8 c c=true:=by
 unfold Zb8
 simp [eqHr]
theorem Zqc (now:Int) (R:CL):liveR now (liveR now R)=liveR now R:=by
 unfold liveR
 rw [List.filter_filter]
 simp
theorem Zsc {R:CL} (hl:R.length≤64):Zd6 R R=some true:=by
 unfold Zd6
 rw [if_neg (by simp),Zdf (L:=Zb1 R R) R (fun _ _=>none) (by omega) (fun n i hi=>by
  rw [Zb1,if_pos (by simp; omega),Zbm hi]
  simp only [Option.bind_some,Zp0,Bool.not_true,Bool.false_eq_true,if_false]
  rw [wsucc (by omega)]) (fun n=>by rw [Zb1,if_neg (by simp)])]
 have e:∀(l:CL) (k:Nat),findI (fun _ _=>(none:Option Bool)) k l=none:=by
  intro l
  induction l with
  | nil=>intro k; rfl
  | cons x l ih=>intro k; exact ih (k + 1)
 rw [e]; rfl
theorem Zi5 {L:TB} {R:CL} (h:Rel L R) (most edge:Int) (hd:Zc) (now:Int):∃ a b,Z8 most (live now L) edge hd now=some (a,b,live now L)∧Zar (mkT most (liveR now R)) edge hd now=some (a,b,mkT most (liveR now R)):=by
 have hM:=h.live now
 have hr:=Znw hM most edge hd now
 rw [Zqc] at hr
 by_cases he:edge<0
 ·refine⟨zC,false,Zot most (live now L) he hd now,?_⟩
  rw [hr,Rel.foundN he]
 ·have he:0≤edge:=by omega
  have hp:=Zpp hM.inv most he hd now
  rw [Zoh] at hp
  refine⟨_,_,hp,?_⟩
  rw [hr,hM.found he]
theorem Zts {L:TB} {R:CL} (h:Rel L R) (most:Int) (x:Zw):Zdj most L (mkT most R) x=some (true,live x.Now L,mkT most (liveR x.Now R)):=by
 unfold Zdj
 rw [Ztk h.inv,Zsw h]
 simp only [Option.bind_some,Zqr]
 obtain⟨a1,b1,p1,q1⟩:=Zi5 h most x.Edge (rev x.Sent) x.Now
 rw [p1]
 simp only [Option.bind_some]
 rw [q1]
 simp only [Option.bind_some]
 obtain⟨a2,b2,p2,q2⟩:=Zi5 h most x.Edge (rev ((mget Zg (live x.Now L) x.Real).getD zC).Delivered) x.Now
 rw [p2]
 simp only [Option.bind_some]
 rw [q2]
 simp only [Option.bind_some,Zp0,beq_self_eq_true,Bool.and_self,if_true]
 have hM:=h.live x.Now
 obtain⟨S,s1,s2,s3⟩:=Ztj hM.inv most x.Now
 rw [Zoh] at s1 s2
 have hS:S=liveR x.Now R:=hM.list s2 s3
 rw [s1]
 simp only [Option.bind_some]
 rw [hS,show (mkT most (liveR x.Now R)).L=liveR x.Now R from rfl,Zsc (h.liveLen x.Now)]
 rfl
structure AOk (x:Zw):Prop where
 real:Zu x.Real
 now:Zcl x.Now
 hid:∀ m∈x.Hides,Zbg m
 len:x.Hides.length≤1000000000000
theorem do_eq {L:TB} {R:CL} (h:Rel L R) {most:Int} (hm:most≤64) {x:Zw} (hx:AOk x):∃ L' R',Zdn most L (mkT most R) x=some (true,L',mkT most R')∧Rel L' R':=by
 unfold Zdn
 have fin:∀ {L':TB} {R':CL},Rel L' R'→∃ L2 R2,((Zdj most L' (mkT most R') x).bind fun(r83:(Bool × TB × RT))=>some (r83.1,r83.2.1,r83.2.2))=some (true,L2,mkT most R2)∧Rel L2 R2:=fun hr=>by
  rw [Zts hr]
  exact⟨_,_,rfl,hr.live x.Now⟩
 by_cases k0:(x.Kind == 0)=true
 ·rw [if_pos k0,Zq6 h.inv most x.Edge x.Sent x.Real x.Class x.Opens hx.now]
  obtain⟨R',e1,e2⟩:=Zqa h hm x.Edge x.Sent hx.real x.Class x.Opens hx.now
  simp only [Option.bind_some]
  rw [e1]
  simp only [Option.bind_some,bne_self_eq_false,Bool.false_eq_true,if_false]
  exact fin e2
 rw [if_neg k0]
 by_cases k1:(x.Kind == 1)=true
 ·rw [if_pos k1,Zr3 h.inv hm x.Edge hx.real x.Class hx.hid hx.len x.Opens hx.now]
  obtain⟨R',e1,e2⟩:=Zq9 h hm x.Edge hx.real x.Class hx.hid hx.len x.Opens hx.now
  simp only [Option.bind_some]
  rw [e1]
  simp only [Option.bind_some,eqHr,Bool.not_true,Bool.false_or,bne_self_eq_false,Bool.false_eq_true,if_false]
  exact fin e2
 rw [if_neg k1]
 by_cases k2:(x.Kind == 2)=true
 ·rw [if_pos k2,Zq7 h.inv most x.Real x.Class hx.now]
  obtain⟨R',e1,e2⟩:=Zqb h hm hx.real x.Class hx.now
  simp only [Option.bind_some]
  rw [e1]
  simp only [Option.bind_some,bne_self_eq_false,Bool.false_eq_true,if_false]
  exact fin e2
 rw [if_neg k2]
 by_cases k3:(x.Kind == 3)=true
 ·have hf:Zbv most L x.Real x.Flags x.Now=some (psd (live x.Now L) x.Real x.Flags x.Now false):=by
   unfold Zbv
   rw [Zol h.inv most x.Real x.Flags hx.now]; rfl
  rw [if_pos k3,hf]
  obtain⟨R',e1,e2⟩:=Znf h most x.Real x.Flags hx.now false
  simp only [Option.bind_some]
  rw [e1]
  exact fin e2
 rw [if_neg k3]
 by_cases k4:(x.Kind == 4)=true
 ·have hf:Zb6 most L x.Real x.Flags x.Now=some (psd (live x.Now L) x.Real x.Flags x.Now true):=by
   unfold Zb6
   rw [Zol h.inv most x.Real x.Flags hx.now]; rfl
  rw [if_pos k4,hf]
  obtain⟨R',e1,e2⟩:=Znf h most x.Real x.Flags hx.now true
  simp only [Option.bind_some]
  rw [e1]
  exact fin e2
 rw [if_neg k4]
 by_cases k5:(x.Kind == 5)=true
 ·rw [if_pos k5,h.inv.sweep]
  simp only [Option.bind_some]
  rw [h.sweep]
  simp only [Option.bind_some,bne_self_eq_false,Bool.false_eq_true,if_false]
  exact fin (h.live x.Now)
 rw [if_neg k5]
 by_cases k6:(x.Kind == 6)=true
 ·rw [if_pos k6]
  exact fin Rel.nil
 ·rw [if_neg k6]
  exact fin h
theorem Ztt {t:Zq} (ht:TOk t):Ok (Zd4 t) fun r=>Zu r.1∧TOk r.2:=by
 unfold Zd4
 refine Ok.bind (Zcp ht 3 (by omega) (by omega)) fun r1 ⟨⟨a1,a2⟩,t1⟩=>?_
 refine Ok.bind (Zcp t1 4 (by omega) (by omega)) fun r3 ⟨⟨b1,b2⟩,t3⟩=>?_
 refine Ok.bind (Ok.idx (p:=fun x=>x=6∨x=17∨x=1∨x=50) b1 (by simp; omega) (fun x hx=>by simpa using hx)) fun x5 hx=>?_
 refine Ok.bind (Zcp t3 2 (by omega) (by omega)) fun r7 ⟨⟨c1,c2⟩,t7⟩=>?_
 rw [wu32 (x:=r1.1) (by omega) (by omega),wu32 (x:=167772160 + r1.1) (by omega) (by omega),wi64 (x:=1000 + r7.1) (by omega) (by omega),wu16' (x:=1000 + r7.1) (by omega) (by omega)]
 have hb:∀(sp dp:Int),Zcq sp→Zcq dp→Zu ⟨167772160 + r1.1,167772416,x5,sp,dp⟩:=fun sp dp h1 h2=>⟨by unfold Zc9; show 0≤167772160 + r1.1∧_; constructor <;> (try show 167772160 + r1.1<4294967296) <;> omega,by unfold Zc9; show (0:Int)≤167772416∧(167772416:Int)<4294967296; omega,by unfold ok_u8; show 0≤x5∧x5<256; omega,h1,h2,trivial⟩
 have u1:Zcq (1000 + r7.1):=by unfold Zcq; omega
 refine Ok.bind (p:=fun v=>Zu v) (Ok.ite (fun _=>Ok.ret (hb (1000 + r7.1) 8 u1 (by unfold Zcq; omega))) fun _=>Ok.ite (fun _=>Ok.ret (hb 0 0 (by unfold Zcq; omega) (by unfold Zcq; omega))) fun _=>Ok.ret (hb (1000 + r7.1) 80 u1 (by unfold Zcq; omega))) fun v v1=>Ok.ret ⟨v1,t7⟩
theorem Zs2 {t:Zq} (ht:TOk t):Ok (Zdy t) fun r=>(∀ m∈r.1,Zbg m)∧r.1.length≤1∧TOk r.2:=by
 unfold Zdy
 refine Ok.bind (Zcp ht 3 (by omega) (by omega)) fun r1 ⟨⟨a1,a2⟩,t1⟩=>?_
 refine Ok.ite (fun _=>Ok.ret ⟨by simp,by simp,t1⟩) fun _=>?_
 rw [Zte]
 refine Ok.lift ?_
 refine Ok.bind (Zcp t1 3 (by omega) (by omega)) fun r5 ⟨⟨b1,b2⟩,t5⟩=>?_
 refine Ok.bind (Zcp t5 5 (by omega) (by omega)) fun r7 ⟨⟨c1,c2⟩,t7⟩=>?_
 refine Ok.bind (Ok.idx (p:=fun x=>x=1024∨x=0∨x=8∨x=7∨x=65535) c1 (by simp; omega) (fun x hx=>by simpa using hx)) fun x9 hx=>?_
 refine Ok.bind (Zcp t7 3 (by omega) (by omega)) fun r11 ⟨⟨d1,d2⟩,t11⟩=>?_
 rw [wu32 (x:=r5.1) (by omega) (by omega),wu32 (x:=167772160 + r5.1) (by omega) (by omega),wu32 (x:=r11.1) (by omega) (by omega),wu32 (x:=x9 + r11.1) (by omega) (by omega)]
 have hmin:0≤iMin (x9 + r11.1) 65535∧iMin (x9 + r11.1) 65535≤65535:=by unfold iMin; split <;> omega
 have hb:∀ p:Zj,Zda p→Zbg ⟨{ full with x0:=⟨167772160,167772160 + r5.1⟩ },3325256705,p⟩:=fun p hp=>by
  unfold Zbg Zh6 Zda Zc9 full
  simp only
  exact⟨⟨⟨by omega,by omega,trivial⟩,⟨by omega,by omega,trivial⟩,⟨by omega,by omega,trivial⟩,⟨by omega,by omega,trivial⟩,⟨by omega,by omega,trivial⟩,trivial⟩,by omega,hp,trivial⟩
 refine Ok.bind (p:=fun o=>Zbg o.2.2∧TOk o.1) (Ok.bind (Zcp t11 8 (by omega) (by omega)) fun r21 ⟨_,t21⟩=>Ok.ite (fun _=>Ok.ret ⟨hb ⟨x9,65536⟩ ⟨by unfold Zc9; show 0≤x9∧x9<4294967296; omega,by unfold Zc9; show (0:Int)≤65536∧(65536:Int)<4294967296; omega,trivial⟩,t21⟩) fun _=>Ok.ret ⟨hb ⟨x9,iMin (x9 + r11.1) 65535⟩ ⟨by unfold Zc9; show 0≤x9∧x9<4294967296; omega,by unfold Zc9; show 0≤iMin (x9 + r11.1) 65535∧iMin (x9 + r11.1) 65535<4294967296; omega,trivial⟩,t21⟩) fun o ⟨o1,o2⟩=>?_
 obtain⟨v16,v17,v18⟩:=o
 exact Ok.ret ⟨fun m hm=>by rw [List.mem_singleton] at hm; subst hm; exact o1,by simp,o2⟩
theorem act_ok {t:Zq} (ht:TOk t) {now:Int} (h0:0≤now) (h1:now≤1000000000):Ok (Zc6 t now) fun r=>AOk r.1∧TOk r.2∧0≤r.1.Now∧r.1.Now≤now + 601:=by
 unfold Zc6
 refine Ok.bind (Zcp ht 12 (by omega) (by omega)) fun r1 ⟨⟨a1,a2⟩,t1⟩=>?_
 refine Ok.bind (Ok.idx (p:=fun _=>True) a1 (by simp; omega) (fun _ _=>trivial)) fun x3 _=>?_
 refine Ok.bind (Zcp t1 3 (by omega) (by omega)) fun r5 ⟨_,t5⟩=>?_
 refine Ok.bind (Zcp t5 2 (by omega) (by omega)) fun r7 ⟨_,t7⟩=>?_
 refine Ok.bind (Zcp t7 2 (by omega) (by omega)) fun r9 ⟨_,t9⟩=>?_
 refine Ok.bind (Ztt t9) fun r11 ⟨f1,t11⟩=>?_
 refine Ok.bind (Zcp t11 4 (by omega) (by omega)) fun r13 ⟨_,t13⟩=>?_
 refine Ok.bind (Zcp t13 8 (by omega) (by omega)) fun r15 ⟨⟨b1,b2⟩,t15⟩=>?_
 refine Ok.bind (Ok.idx (p:=fun x=>0≤x∧x≤601) b1 (by simp; omega) (fun x hx=>by
  simp only [List.mem_cons,List.not_mem_nil,or_false] at hx
  omega)) fun x17 ⟨g0,g1⟩=>?_
 rw [wi64 (x:=now + x17) (by omega) (by omega)]
 refine Ok.bind (p:=fun o=>o.2.Real=r11.1∧o.2.Now=now + x17∧TOk o.1) (Ok.bind (Zcp t15 4 (by omega) (by omega)) fun r26 ⟨_,t26⟩=>Ok.ite (fun _=>Ok.ret ⟨rfl,rfl,t26⟩) fun _=>Ok.ret ⟨rfl,rfl,t26⟩) fun o ⟨o1,o2,o3⟩=>?_
 obtain⟨v22,v23⟩:=o
 refine Ok.bind (Zcp o3 2 (by omega) (by omega)) fun r29 ⟨⟨c1,c2⟩,t29⟩=>?_
 refine Ok.bind (Ok.idx (p:=fun _=>True) c1 (by simp; omega) (fun _ _=>trivial)) fun x31 _=>?_
 refine Ok.bind (Zcp t29 8 (by omega) (by omega)) fun r33 ⟨⟨d1,d2⟩,t33⟩=>?_
 refine Ok.bind (Ok.idx (p:=fun _=>True) d1 (by simp; omega) (fun _ _=>trivial)) fun x35 _=>?_
 refine Ok.bind (Zs2 t33) fun r37 ⟨k1,k2,k3⟩=>Ok.ret ⟨⟨?_,?_,k1,by show r37.1.length≤_; omega⟩,k3,?_,?_⟩
 ·show Zu v23.Real
  rw [o1]; exact f1
 ·show Zcl v23.Now
  rw [o2]; unfold Zcl; omega
 ·show 0≤v23.Now
  rw [o2]; omega
 ·show v23.Now≤now + 601
  rw [o2]; omega
end Go.AM
set_option maxRecDepth 100000
namespace Go.AM
open Go
theorem Znh:∀(l:TB) (M:TB),mfold Za5 l M=some (.inr (l.foldl (fun M x=>mput Zg M x.1 x.2) M))
 | [],_=>rfl
 | x :: l,M=>by
  unfold mfold
  rw [Za5]
  exact Znh l _
theorem Zp1:∀(l M:TB),((M++l).map (·.1)).Nodup→l.foldl (fun M x=>mput Zg M x.1 x.2) M=M++l
 | [],M,_=>by simp
 | x :: l,M,h=>by
  have hx:¬ M.any (fun y=>Zg x.1 y.1)=true:=by
   rw [List.any_eq_true]
   rintro⟨y,hy,he⟩
   rw [eqH] at he
   rw [List.map_append,List.nodup_append] at h
   exact h.2.2 y.1 (List.mem_map_of_mem hy) x.1 (by simp) he.symm
  rw [List.foldl_cons]
  have e:mput Zg M x.1 x.2=M++[x]:=by
   unfold mput
   rw [if_neg hx]
  rw [e,Zp1 l (M++[x]) (by simpa using h)]
  simp
theorem Zs3 {L:TB} (h:TaOk L) (most:Int):Zb7 most L=some (most,canonM L):=by
 unfold Zb7
 refine Ziq fun l' hp=>?_
 rw [Znh,Zp1 l' [] (by simpa using (hp.map _).nodup_iff.2 h.nd)]
 simp only [Option.bind_some,List.nil_append]
 rw [Zrp hp]
theorem Rel.canon {L:TB} {R:CL} (h:Rel L R):Rel (canonM L) R:=by
 have hp:=Zlm L
 have i:=h.inv
 exact⟨⟨⟨(hp.map _).nodup_iff.1 i.ta.nd,fun x hx=>i.ta.real x (hp.mem_iff.2 hx)⟩,fun x hx=>i.el x (hp.mem_iff.2 hx),fun x hx y hy=>i.un x (hp.mem_iff.2 hx) y (hp.mem_iff.2 hy),by rw [← hp.length_eq]; exact i.len⟩,fun c=>by rw [h.mem,hp.mem_iff],h.srt⟩
theorem Zsd {R:CL} (hl:R.length≤64) (most:Int):Zch (mkT most R)=some (mkT most R):=by
 unfold Zch
 have e:(mkT most R).L=R:=rfl
 rw [e,if_pos (by unfold lim; simp only [List.length_nil]; omega),List.nil_append]
 rfl
theorem clones1 {r:Int × TB} (hm:r.1≤64):∀(n m:Nat) (L:TB) (R:CL) (t:Zq) (now i:Int),Rel L R→TOk t→0≤now→now≤601 * i→(6 - i).toNat=n→n<m→0≤i→i≤6 →
  ∃ L' R' t' now',Zah r m L (mkT r.1 R) t now i=some (.inl (L',mkT r.1 R',t',now'))∧Rel L' R'∧TOk t'∧0≤now'∧now'≤10000
 | 0,m,L,R,t,now,i,h,ht,h0,h1,hn,hmm,hi,hj=>by
  obtain⟨m,rfl⟩:∃ k,m=k + 1:=⟨m - 1,by omega⟩
  rw [Zah,if_neg (by simp; omega)]
  exact⟨_,_,_,_,rfl,h,ht,h0,by omega⟩
 | n + 1,m,L,R,t,now,i,h,ht,h0,h1,hn,hmm,hi,hj=>by
  obtain⟨m,rfl⟩:∃ k,m=k + 1:=⟨m - 1,by omega⟩
  have q1:(6 - (i + 1)).toNat=n:=by omega
  have q2:n<m:=by omega
  have q3:0≤i + 1:=by omega
  have q5:i + 1≤6:=by omega
  rw [Zah,if_pos (by simp; omega),wi64 (x:=i + 1) (by omega) (by omega)]
  obtain⟨a,ha,a1,a2,a3,a4⟩:=act_ok ht h0 (by omega)
  rw [ha]
  simp only [Option.bind_some]
  obtain⟨L',R',e1,e2⟩:=do_eq h hm a1
  rw [e1]
  simp only [Option.bind_some,Bool.not_true,Bool.false_eq_true,if_false]
  have q4:a.1.Now≤601 * (i + 1):=by omega
  exact clones1 hm n m L' R' a.2 a.1.Now (i + 1) e2 a2 a3 q4 q1 q2 q3 q5
theorem clones2 {r r':Int × TB} (hm:r.1≤64) (hm':r'.1=r.1) {now:Int} (h0:0≤now) (h1:now≤10000):∀(n m:Nat) (L:TB) (R:CL) (t:Zq) (L2:TB) (R2:CL) (i:Int),Rel L R→Rel L2 R2→TOk t→(6 - i).toNat=n→n<m→0≤i →
  ∃ x,Zai r now r' m L (mkT r.1 R) t L2 (mkT r.1 R2) i=some (.inl x)
 | 0,m,L,R,t,L2,R2,i,h,k,ht,hn,hmm,hi=>by
  obtain⟨m,rfl⟩:∃ k,m=k + 1:=⟨m - 1,by omega⟩
  rw [Zai,if_neg (by simp; omega)]
  exact⟨_,rfl⟩
 | n + 1,m,L,R,t,L2,R2,i,h,k,ht,hn,hmm,hi=>by
  obtain⟨m,rfl⟩:∃ k,m=k + 1:=⟨m - 1,by omega⟩
  have q1:(6 - (i + 1)).toNat=n:=by omega
  have q2:n<m:=by omega
  have q3:0≤i + 1:=by omega
  rw [Zai,if_pos (by simp; omega),wi64 (x:=i + 1) (by omega) (by omega),hm']
  obtain⟨a,ha,a1,a2,_,_⟩:=act_ok ht h0 (by omega)
  rw [ha]
  simp only [Option.bind_some]
  obtain⟨L',R',e1,e2⟩:=do_eq h hm a1
  rw [e1]
  simp only [Option.bind_some,Bool.not_true,Bool.false_eq_true,if_false]
  obtain⟨b,hb,b1,b2,_,_⟩:=act_ok a2 h0 (by omega)
  rw [hb]
  simp only [Option.bind_some]
  obtain⟨L2',R2',f1,f2⟩:=do_eq k hm b1
  rw [f1]
  simp only [Option.bind_some,Bool.not_true,Bool.false_eq_true,if_false]
  exact clones2 hm hm' h0 h1 n m L' R' b.2 L2' R2' (i + 1) e2 f2 b2 q1 q2 q3
theorem Zju {a0:List Int} (ha:Zpb a0):Zcj a0=some true:=by
 have hsane:Zfs=some true:=rfl
 obtain⟨t,ht,t1⟩:=New_ok (l:=a0) (by have:=ha.1; omega)
 unfold Zcj
 have hnew:Zdb 4=some (4,[]):=rfl
 rw [hnew]
 simp only [Option.isSome_some,if_true,Option.bind_some,ht]
 obtain⟨L,R,t',now',e1,e2,e3,e4,e5⟩:=clones1 (r:=(4,[])) (by decide) 6 fuel [] [] t 0 0 Rel.nil t1 (by omega) (by omega) (by omega) (by unfold fuel; omega) (by omega) (by omega)
 rw [show Zk.mk 4 []=mkT 4 [] from rfl,e1]
 simp only [Option.bind_some]
 rw [Zs3 e2.inv.ta]
 simp only [Option.bind_some]
 rw [Zsd e2.rlen]
 simp only [Option.bind_some]
 obtain⟨x,hx⟩:=clones2 (r:=(4,[])) (r':=(4,canonM L)) (by decide) rfl e4 e5 6 fuel L R t' (canonM L) R 0 e2 e2.canon e3 (by omega) (by unfold fuel; omega) (by omega)
 rw [hx]
 obtain⟨x1,x2,x3,x4,x5⟩:=x
 simp only [Option.bind_some,hsane]
end Go.AM

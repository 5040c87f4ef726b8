/- Parts of a proof, printed short. No condition. -/
import Derived.Test.YtdpogkakaeeccaaGreatDoorCoQ6
set_option maxRecDepth 100000
namespace Go.AM
open Go
def vp (x:Zj):Nat→Arr5 Int
 | 0=>⟨0,0,0,0,0⟩
 | f + 1=>(vp x f).set (f:Int) ((hv x).get (f:Int))
theorem hv_top {x:Zj} (hx:Z2 x) {f:Nat} (hf:f<5):0≤(hv x).get (f:Int)∧(hv x).get (f:Int)≤topOf (f:Int):=by
 obtain⟨h0,h1,h2,h3,h4⟩:=hv_ok hx
 rcases fiveN hf with rfl | rfl | rfl | rfl | rfl
 ·exact h0
 ·exact h1
 ·exact h2
 ·exact h3
 ·exact h4
theorem Z0c {f:Nat} (hf:f<5):0≤topOf (f:Int)∧topOf (f:Int)≤4294967295:=by
 rcases fiveN hf with rfl | rfl | rfl | rfl | rfl <;> decide
theorem vp_ok {x:Zj} (hx:Z2 x):∀ f,f≤5→VOk (vp x f)
 | 0,_=>show VOk ⟨0,0,0,0,0⟩ from ⟨by decide,by decide,by decide,by decide,by decide⟩
 | f + 1,h=>(vp_ok hx f (by omega)).set (by omega) (by omega) (hv_top hx (by omega)).1 (hv_top hx (by omega)).2
theorem vp_pt (x:Zj) {f:Nat} (hf:f<5) (m:Int):pt (hdr ((vp x f).set (f:Int) m))=(pt x).take f++m :: List.replicate (4 - f) 0:=by
 rcases fiveN hf with rfl | rfl | rfl | rfl | rfl <;> rfl
theorem Z0d (x:Zj) {f:Nat} (hf:f<5):pt x=(pt x).take f++(hv x).get (f:Int) :: (pt x).drop (f + 1):=by
 rw [← Zs8 hf x,List.take_append_drop]
theorem Zza {x:Zj} (hx:Z2 x):∀ y∈pt x,0≤y:=by
 obtain⟨h0,h1,h2,h3,h4⟩:=hv_ok hx
 intro y hy
 simp only [pt,List.mem_cons,List.not_mem_nil,or_false] at hy
 rcases hy with rfl | rfl | rfl | rfl | rfl
 ·exact h0.1
 ·exact h1.1
 ·exact h2.1
 ·exact h3.1
 ·exact h4.1
theorem rsel_H {s:List Bx} (hs:VS s) {x:Zj} (hx:Z2 x) (mx:mem s (pt x)=true) {f:Nat} (hf:f<5):∀ m,0≤m→m≤topOf (f:Int) →
  ∃ g r,Zef (hdr (vp x f)) (f:Int) m=some g∧Zea s g=some (cN r)∧0≤r∧r<340282366920938463463374607431768211456∧(r≤R (s.map toL) (pt x) ↔ m≤(hv x).get (f:Int)):=by
 intro m h0 h1
 have hv':=vp_ok hx f (by omega)
 have hg:=hv'.set (k:=(f:Int)) (by omega) (by omega) h0 h1
 have hgo:=hdr_ok hg
 have hV:=V_vs hs
 have hR:=R_vs hs (pt_ok hgo)
 have h01:=b1_01 (mem s (pt (hdr ((vp x f).set (f:Int) m))))
 have hb:b1 (mS (s.map toL) (pt x))=1:=by
  have:mS (s.map toL) (pt x)=true:=mx
  rw [this]; rfl
 refine⟨_,_,by rw [Zwc (hdr_ok hv') hf h0,if_pos h1,hv_hdr],Zy8 hs hgo,hR.1,by omega,?_⟩
 have epg:=vp_pt x hf m
 have epx:=Z0d x hf
 have key1:m<(hv x).get (f:Int)→R (s.map toL) (pt (hdr ((vp x f).set (f:Int) m)))≤R (s.map toL) (pt x):=fun hlt=>by
  have hl:ltL (pt (hdr ((vp x f).set (f:Int) m))) (pt x):=by
   have:=Ztb ((pt x).take f) (P:=List.replicate (4 - f) 0) (Q:=(pt x).drop (f + 1)) hlt
   rw [← epx,← epg] at this
   exact this
  have:=Zok tops5 Zh3 hs.cf (pt_ok hgo) (pt_ok hx) hl
  have hm:b1 (mem s (pt (hdr ((vp x f).set (f:Int) m))))=b1 (mS (s.map toL) (pt (hdr ((vp x f).set (f:Int) m)))):=rfl
  omega
 have key2:m=(hv x).get (f:Int)→R (s.map toL) (pt (hdr ((vp x f).set (f:Int) m)))≤R (s.map toL) (pt x):=fun he=>by
  have hz:=Zwb ((pt x).drop (f + 1)) fun y hy=>Zza hx y (List.mem_of_mem_drop hy)
  have hlen:((pt x).drop (f + 1)).length=4 - f:=by
   rw [List.length_drop]
   show 5 - (f + 1)=4 - f
   omega
  rw [hlen] at hz
  have hs2:=Zwa ((pt x).take f++[m]) hz
  rw [List.append_assoc,List.append_assoc] at hs2
  have e1:(pt x).take f++([m]++List.replicate (4 - f) 0)=pt (hdr ((vp x f).set (f:Int) m)):=epg.symm
  have e2:(pt x).take f++([m]++(pt x).drop (f + 1))=pt x:=by rw [he]; exact epx.symm
  rw [e1,e2] at hs2
  rcases hs2 with h | h
  ·rw [h]; exact Int.le_refl _
  ·have:=Zok tops5 Zh3 hs.cf (pt_ok hgo) (pt_ok hx) h
   have hm:b1 (mem s (pt (hdr ((vp x f).set (f:Int) m))))=b1 (mS (s.map toL) (pt (hdr ((vp x f).set (f:Int) m)))):=rfl
   omega
 have key3:(hv x).get (f:Int)<m→R (s.map toL) (pt x)<R (s.map toL) (pt (hdr ((vp x f).set (f:Int) m))):=fun hlt=>by
  have hl:ltL (pt x) (pt (hdr ((vp x f).set (f:Int) m))):=by
   have:=Ztb ((pt x).take f) (P:=(pt x).drop (f + 1)) (Q:=List.replicate (4 - f) 0) hlt
   rw [← epx,← epg] at this
   exact this
  have:=Zok tops5 Zh3 hs.cf (pt_ok hx) (pt_ok hgo) hl
  omega
 constructor
 ·intro h
  rcases Int.lt_or_le ((hv x).get (f:Int)) m with h2 | h2
  ·have:=key3 h2; omega
  ·exact h2
 ·intro h
  rcases Int.lt_or_eq_of_le h with h2 | h2
  ·exact key1 h2
  ·exact key2 h2
theorem vp5 (x:Zj):hdr (vp x 5)=x:=rfl
theorem Zxu {s:List Bx × Int} (hs:VS s.1) {x:Zj} (hx:Z2 x) (mx:mem s.1 (pt x)=true) (hk:R (s.1.map toL) (pt x)<340282366920938463463374607431768211456):∀(j f n:Nat),f + j=5→j<n →
  Zcq (cN (R (s.1.map toL) (pt x))) s n (hdr (vp x f)) (f:Int)=some x
 | 0,f,n + 1,e,_=>by
  have:f=5:=by omega
  subst this
  rw [Zcq,if_neg (by decide)]
  exact congrArg some (vp5 x)
 | j + 1,f,n + 1,e,hn=>by
  have hf:f<5:=by omega
  have ht:=Z0c hf
  have hvx:=hv_top hx hf
  have hR:=R_vs hs (pt_ok hx)
  have hb:=bis_L (s:=s) (h:=hdr (vp x f)) (f:=(f:Int)) hR.1 hk ht.2 (rsel_H hs hx mx hf) 4294967296 fuel 0 (topOf (f:Int)) (by omega) (by unfold fuel; omega) (by omega) hvx.1 hvx.2 (Int.le_refl _)
  rw [Zcq,if_pos (decide_eq_true (by omega)),bindC (Top_eq (f:Int) (by omega) (by omega)),wu64 ht.1 (by omega),bindC hb,wu32 hvx.1 (by omega),bindC (Zwc (hdr_ok (vp_ok hx f (by omega))) hf hvx.1),if_pos hvx.2,hv_hdr,wsucc (by omega)]
  exact Zxu hs hx mx hk j (f + 1) n (by omega) (by omega)
theorem Zya {l:List Bx} (hl:l.length≤300000) (hin:∀ x∈l,BIn x) {k:Int} (h0:0≤k) (hk:k<340282366920938463463374607431768211456):∃ o,Zc4 l (cN k)=some o∧Zf5 l (cN k)=some o:=by
 unfold Zf5
 rw [bindC (Zmx hl hin)]
 have so:=(st_ok l).1
 by_cases hz:(st l).2=0
 ·have hV:=V_vs so.vs
  have hof:Zf2 (st l).1=some (cN (V ((st l).1.map toL)),0):=by
   rw [Zta (by have:=so.vs.len; omega) (fun x hx=>(so.vs.ok x hx).bin)]
   unfold ofA
   rw [Zxk so.vs]
   rfl
  rw [bindC hof]
  have hz':((st l).2 != 0)=false:=by simp [hz]
  simp only [Option.bind_some,hz',Bool.false_eq_true,if_false]
  rw [bindC (Zpq h0 hk hV.1 (by omega))]
  simp only [Option.bind_some]
  by_cases hlt:k<V ((st l).1.map toL)
  ·obtain⟨x,x1,x2,x3,x4⟩:=Zy9 hl hin hz h0 hlt
   have hc:decide (cmp3 k (V ((st l).1.map toL)) ≥ 0)=false:=by unfold cmp3; rw [if_pos hlt]; rfl
   have hL:=Zxu (s:=st l) so.vs x2 x3 (by rw [x4]; exact hk) 5 0 fuel rfl (by unfold fuel; omega)
   rw [x4] at hL
   have hL':Zcq (cN k) (st l) fuel Zo 0=some x:=hL
   refine⟨_,x1,?_⟩
   rw [hc,if_neg (by decide),bindC hL']
  ·have hc:decide (cmp3 k (V ((st l).1.map toL)) ≥ 0)=true:=by
    unfold cmp3; rw [if_neg hlt]; split <;> rfl
   refine⟨_,Zuc hl hin h0 hk (Or.inr (by omega)),?_⟩
   rw [hc,if_pos rfl]
   rfl
 ·refine⟨_,Zuc hl hin h0 hk (Or.inl hz),?_⟩
  have hv:=so.vs
  rw [bindC (Zta (by have:=hv.len; omega) (fun x hx=>(hv.ok x hx).bin))]
  have hz':((st l).2 != 0)=true:=by simpa using hz
  simp only [Option.bind_some,hz',if_true]
  rfl
theorem eqh5 (h:Zj):Zkc h h=true:=by obtain⟨a,b,c,d,f⟩:=h; simp [Zkc]
theorem Zj2 {l:List Bx} (hl:l.length≤300000) (hin:∀ x∈l,BIn x) {h:Zj} (hh:Z2 h) {n:Zf} (hn:Zd3 n):Zdj l h n=some true:=by
 obtain⟨k0,k1⟩:=Z09 hn
 obtain⟨o,o1,o2⟩:=Zya hl hin k0 k1
 rw [← cN_of hn] at o1 o2
 unfold Zdj
 rw [bindC (Of_eq hl hin),bindC (Zta hl hin),bindC (Z1b hl hin hh),bindC (Zv9 hl hin hh),bindC o1,bindC o2]
 simp only [Option.bind_some,Z1h,decide_true,beq_self_eq_true,Bool.and_self,eqh5]
theorem cN_okc {k:Int} (h0:0≤k) (h1:k<340282366920938463463374607431768211456):Zd3 (cN k):=by
 refine⟨?_,?_,trivial⟩
 ·unfold Zg0 cN; simp only; omega
 ·unfold Zg0 cN; simp only; omega
theorem Z1f {l:List Bx} {p:List Int} (hp:vP tops5 p):Zd3 (rkA l p).1:=by
 unfold rkA
 split
 ·exact cN_okc (k:=0) (by omega) (by omega)
 ·have hv:=(st_ok l).1.vs
  have hV:=V_vs hv
  have hR:=R_vs hv hp
  have h01:=b1_01 (mem (st l).1 p)
  exact cN_okc hR.1 (by omega)
theorem Znc {t:List Int} {l:List Bx} {h:Zj} {n:Zf} (ht:Zpz t) (hl:Zkd l) (hh:Z2 h) (hn:Zd3 n):Zer t l h n=some true:=by
 have hsane:Zjx=some true:=rfl
 unfold Zer
 obtain⟨t0,e0,h0⟩:=New_ok (Z0p ht)
 rw [e0]
 have key:∀(s:Zg),TOk s→Ok (Zbc n fuel s 0) fun o=>∃ v,o=.inl v:=fun s hs=>by
  refine Zzm (L:=Zbc n) 3 (fun _ s=>TOk s) (by omega) (fun k s i hi e1 kk=>?_) (fun n s h=>?_) s hs
  ·rw [Zbc,if_pos (by simp; omega)]
   refine Ok.bind (Zvk true e1 (by omega) (by omega)) fun r80 ⟨c1,c2,c3⟩=>?_
   have hin:∀ x∈r80.1,BIn x:=fun x hx=>(c1 x hx).1
   refine Ok.bind (Z1a c3 hin (by omega)) fun r82 ⟨n1,n2⟩=>?_
   rw [bindC (Zv9 (by omega) hin n1),bindC (Zj2 (by omega) hin n1 (Z1f (pt_ok n1)))]
   refine Ok.lift ?_
   refine Ok.bind (p:=fun v=>v.1=false∧TOk v.2) ?_ fun v98 ⟨v1,v2⟩=>?_
   ·refine Ok.ite (fun hc=>by cases hc) fun _=>?_
    refine Ok.bind (Zt9 n2) fun r90 ⟨d1,d2⟩=>Ok.bind (Zds d2 1048576 (by omega) (by omega)) fun r92 ⟨⟨q0,q1⟩,h92⟩=>?_
    rw [wu64 q0 (by omega),show Ze7 r92.1=some (⟨0,r92.1⟩:Zf) from rfl]
    refine Ok.lift ?_
    rw [bindC (Zj2 (by omega) hin d1 (n:=⟨0,r92.1⟩) ⟨by unfold Zg0; simp,by unfold Zg0; simp only; omega,trivial⟩)]
    exact Ok.ret ⟨rfl,h92⟩
   ·rw [v1]
    refine Ok.lift ?_
    refine Ok.bind (p:=fun v=>v.1=false∧TOk v.2) ?_ fun v106 ⟨w1,w2⟩=>?_
    ·refine Ok.ite (fun hc=>by cases hc) fun _=>?_
     refine Ok.bind (Z1e v2 (by omega) (by omega)) fun r102 ⟨g1,g2⟩=>?_
     rw [bindC (Zj2 (by have:=g1.len; omega) (fun x hx=>(g1.ok x hx).bin) n1 hn)]
     exact Ok.ret ⟨rfl,g2⟩
    ·rw [w1,if_neg (by decide),wsucc (by omega)]
     exact kk _ w2
  ·rw [Zbc,if_neg (by simp)]
   exact Ok.ret ⟨s,rfl⟩
 obtain⟨o,e1,⟨v,rfl⟩⟩:=key t0 h0
 simp only [Option.bind_some,e1]
 unfold Zgl
 simp only [Option.bind_some]
 by_cases h1:l.length≤6
 ·rw [if_neg (by simp; omega),Zj2 (by omega) (fun x hx=>Z1g (hl.2 x hx)) hh hn]
  simp only [Option.bind_some,if_true,hsane]
 ·rw [if_pos (by simp; omega)]
  rfl
end Go.AM

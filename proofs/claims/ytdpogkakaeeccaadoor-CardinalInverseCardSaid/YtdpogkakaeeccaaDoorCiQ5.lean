/- Parts of a proof, printed short. No condition. -/
import Derived.Lib.Mul64
import Derived.Test.YtdpogkakaeeccaaDoorCiQ4
set_option maxRecDepth 100000
namespace Go.AM
open Go
theorem Zqr {f:Nat} (hf:f<5) (x:Cell) (hx:∀ b∈x.2,b.length=4 - f) (acc:List Bx) (hl:acc.length + x.2.length≤2000000000) :
  Zaf (f:Int) (gr1 f x) fuel acc 0=some (acc++(x.2.map (x.1 :: ·)).map (pad f)):=by
 have hlen:(x.2.map (pad (f + 1))).length=x.2.length:=List.length_map _
 have:=Zhu (L:=Zaf (f:Int) (gr1 f x)) (x.2.map (pad (f + 1))) (fun s _ y=>s++[Arr5.set y (f:Int) x.1]) id (fun i s=>s.length≤acc.length + i) (by omega) (fun n s i hi hs=>by
  rw [Zaf]
  simp only [show (gr1 f x).f_rest=x.2.map (pad (f + 1)) from rfl,show (gr1 f x).f_values=x.1 from rfl,show ((i:Int)<((x.2.map (pad (f + 1))).length:Int)) from by omega,decide_true,if_true,Zcl hi,Option.bind_some,wsucc (by omega:i<1000000000001),List.length_singleton]
  rw [if_pos ⟨by omega,by omega⟩,if_pos (show s.length + 1≤lim by unfold lim; omega)]
  exact⟨rfl,by simp; omega⟩) (fun n s hs=>by rw [Zaf]; simp [show (gr1 f x).f_rest=x.2.map (pad (f + 1)) from rfl]) acc (by omega)
 rw [this.1,Zoz,List.map_map,List.map_map]
 simp only [id]
 congr 2
 exact List.map_congr_left fun b hb=>Zuw hf (hx b hb) x.1
theorem Zqs {f:Nat} (hf:f<5) (c:List Cell) (hc:∀ x∈c,∀ b∈x.2,b.length=4 - f) (hl:(flt c).length≤2000000000) (hcl:c.length≤2000000000) :
  Z9 (f:Int) (gr f c) fuel [] 0=some ((flt c).map (pad f)):=by
 have e:∀(d:List Cell) (acc:List Bx) (i:Nat),foldI (fun(s:List Bx) _ (y:Cell)=>s++(y.2.map (y.1 :: ·)).map (pad f)) acc i d=acc++(flt d).map (pad f):=by
  intro d
  induction d with
  | nil=>intro acc i; simp [foldI,flt]
  | cons x d ih=>intro acc i; simp only [foldI]; rw [ih,Zc8,List.map_append,List.append_assoc]
 have:=Zhu (L:=Z9 (f:Int) (gr f c)) c (fun s _ y=>s++(y.2.map (y.1 :: ·)).map (pad f)) id (fun i s=>s.length=(flt (c.take i)).length) (by omega) (fun n s i hi hs=>by
  have hi':i<(gr f c).length:=by rw [gr_len]; exact hi
  have hx:idx (gr f c) (i:Int)=some (gr1 f c[i]):=by rw [Zcl hi']; exact congrArg some (List.getElem_map ..)
  have tk:flt (c.take (i + 1))=flt (c.take i)++(c[i].2.map (c[i].1 :: ·)):=by
   rw [List.take_add_one,List.getElem?_eq_getElem hi,Zed]; simp [flt]
  have hle:(flt (c.take (i + 1))).length≤(flt c).length:=by
   conv=>rhs; rw [← List.take_append_drop (i + 1) c,Zed,List.length_append]
   omega
  have hle2:(flt (c.take (i + 1))).length=(flt (c.take i)).length + (c[i]).2.length:=by rw [tk,List.length_append,List.length_map]
  rw [Z9]
  rw [if_pos (by rw [gr_len]; simp; omega),hx]
  simp only [Option.bind_some]
  rw [Zqr hf _ (hc _ (List.getElem_mem hi)) s (by omega)]
  simp only [Option.bind_some]
  rw [wsucc (by omega)]
  refine⟨rfl,?_⟩
  rw [List.length_append,List.length_map,List.length_map,hle2,hs]) (fun n s hs=>by rw [Z9]; simp [gr_len]) [] rfl
 rw [this.1,e]
 rfl
structure Canon (op:Bool→Bool→Bool) (C:Nat→Int→List Bx→List Bx→Int→Option (List Bx × Bool)):Prop where
 ff:op false false=false
 base:∀ nr a b m,C (nr + 1) 5 a b m=some (if op (decide ((a.length:Int) > 0)) (decide ((b.length:Int) > 0))=true then ([⟨zr,zr,zr,zr,zr⟩],true) else ([],true))
 step:∀ nr (f:Int) a b m,f ≠ 5→C (nr + 1) f a b m=if (IntKind.wrap .i64 ((a.length:Int) + (b.length:Int)) == (0:Int))=true then some ([],true) else
  (Zdu f [a,b]).bind fun r12=>(Zae f a b m (C nr) r12 fuel [] 0 0).bind fun o=>match o with
   | .inl (v175,v176)=>if 0≤v176∧v176≤(lim:Int) then (Z9 f v175 fuel [] 0).bind fun v=>some (v,true) else none
   | .inr r=>some r
theorem mS5 (a:List Bx):mS (a.map (sf 5)) []=decide ((a.length:Int) > 0):=by
 cases a with
 | nil=>rfl
 | cons b a=>
  have:decide (((b :: a).length:Int) > 0)=true:=by simp
  rw [this]
  show (mB (sf 5 b) [] || mS (a.map (sf 5)) [])=true
  rfl
theorem BOk.all {a:List Bx} (h:∀ x∈a,BOk x) (f v:Int):∀ x∈cov a f v,BOk x:=fun x hx=>h x (Zuy hx)
theorem level {op:Bool→Bool→Bool} {f:Nat} (hf:f<5) {a b:List Bx} {c:List Cell} {ps:List Int} (hps:Pts f (a++b) ps) (hL:Is op (topOf (f:Int) :: tops5.drop (f + 1)) (a.map (sf f)) (b.map (sf f)) (flt c)) (ho:Ord (topOf (f:Int)) c) (hc:∀ x∈c,CF (tops5.drop (f + 1)) x.2) :
  (∃ tl,ps=0 :: tl∧Steps (lk c) (0 :: tl)∧runC (lk c) [] (0 :: tl)=c)∧(∀ v,∀ b∈lk c v,b.length=4 - f) ∧
  ∀ v,0≤v→v≤topOf (f:Int)→Is op (tops5.drop (f + 1)) ((cov a f v).map (sf (f + 1))) ((cov b f v).map (sf (f + 1))) (lk c v):=by
 have hat:∀ v,0≤v→v≤topOf (f:Int)→Is op (tops5.drop (f + 1)) (atv (a.map (sf f)) v) (atv (b.map (sf f)) v) (lk c v):=fun v h0 h1=>Is.at_ ho hc hL h0 h1
 obtain⟨tl,rfl⟩:=hps.h0
 have hrng:∀ x∈(0:Int) :: tl,x≤topOf (f:Int) + 1:=by
  obtain⟨ys,hy⟩:=List.getLast?_eq_some_iff.1 hps.hl
  intro x hx
  have hp:=hps.asc
  rw [hy] at hx hp
  rcases List.mem_append.1 hx with h | h
  ·have:=(List.pairwise_append.1 hp).2.2 x h _ (List.mem_singleton.2 rfl); omega
  ·rw [List.mem_singleton] at h; omega
 have hcut:∀ l:List Bx,(∀ x∈l,x∈a++b)→Cut ((0:Int) :: tl) (l.map (sf f)):=by
  intro l hl x hx r b' e
  obtain⟨z,hz,rfl⟩:=List.mem_map.1 hx
  rw [Zh8 hf,List.cons.injEq] at e
  rw [← e.1]
  exact hps.cut z (hl z hz)
 have hsteps:Steps (lk c) (0 :: tl):=by
  refine Zqe (List.cons_ne_nil _ _) hps.asc fun i h v h1 h2=>?_
  have hx:=Zpi hps.asc h
  have hm:=List.pairwise_iff_getElem.1 hps.asc
  have h0i:0≤((0:Int) :: tl)[i]:=by
   rcases Nat.eq_zero_or_pos i with rfl | hi
   ·exact Int.le_refl _
   ·exact Int.le_of_lt (hm 0 i (by simp) (by omega) hi)
  have hti:=hrng _ (List.getElem_mem h)
  have key:∀ {l:List RL},Cut ((0:Int) :: tl) l→atv l v=atv l ((0:Int) :: tl)[i]:=fun hl=>
   Ztr (fun b hb r b' e=>⟨hx _ (hl b hb r b' e).1,hx _ (hl b hb r b' e).2⟩) h1 h2
  have g1:=hat v (by omega) (by omega)
  rw [key (hcut a fun x hx=>List.mem_append_left _ hx),key (hcut b fun x hx=>List.mem_append_right _ hx)] at g1
  exact g1.inj (hat _ h0i (by omega))
 refine⟨⟨tl,rfl,hsteps,Zus hsteps hps.hl ho fun v _ _=>rfl⟩,fun v b' hb'=>?_,fun v h0 h1=>by rw [Zrw hf,Zrw hf]; exact hat v h0 h1⟩
 have:=CF_len _ (CF_lk ho hc v) b' hb'
 rw [this,List.length_drop]
 show 5 - (f + 1)=4 - f
 omega
theorem Zt7 {op:Bool→Bool→Bool} {C:Nat→Int→List Bx→List Bx→Int→Option (List Bx × Bool)} (hC:Canon op C) {m:Nat} (hm1:1≤m) (hm:m≤100000):∀(k f nr:Nat) (a b:List Bx) (l:List RL),f + k=5→k<nr→a.length + b.length≤400000→(∀ x∈a,BOk x)→(∀ x∈b,BOk x) →
  Is op (tops5.drop f) (a.map (sf f)) (b.map (sf f)) l→C nr (f:Int) a b (m:Int)=some (capd m f l):=by
 intro k
 induction k with
 | zero=>
  intro f nr a b l hf hn hl ha hb hL
  have hf:f=5:=by omega
  subst hf
  cases nr with
  | zero=>omega
  | succ nr=>
  have h1:=hL.mem [] trivial
  rw [mS5,mS5] at h1
  rw [show ((5:Nat):Int)=5 from rfl,hC.base,← h1]
  rcases hL.cf with rfl | rfl
  ·rfl
  ·rw [if_pos (show mS [[]] []=true from rfl)]
   unfold capd
   rw [if_pos (show ([[]]:List RL).length≤m from hm1)]
   rfl
 | succ k ih=>
  intro f nr a b l hf hn hl ha hb hL
  have hf5:f<5:=by omega
  cases nr with
  | zero=>omega
  | succ nr=>
  rw [Zhv hf5] at hL
  rw [hC.step nr (f:Int) a b _ (by omega)]
  rw [wi64 (by omega) (by omega)]
  by_cases h0:a.length + b.length=0
  ·rw [if_pos (by simp; omega)]
   have ha0:a=[]:=List.length_eq_zero_iff.1 (by omega)
   have hb0:b=[]:=List.length_eq_zero_iff.1 (by omega)
   subst ha0 hb0
   have:l=[]:=hL.inj ⟨CF_nil _,fun p hp=>by simp [mS,hC.ff]⟩
   rw [this]
   rfl
  ·rw [if_neg (by simp; omega)]
   obtain⟨ps,hp1,hp2⟩:=Zu0 hf5 hl ha hb
   rw [hp1]
   simp only [Option.bind_some]
   obtain⟨c,rfl,ho,hc⟩:=hL.cf
   obtain⟨⟨tl,rfl,hs,hr⟩,hg,hz⟩:=level hf5 hp2 hL ho hc
   have hlen:=hp2.len
   rw [List.length_append] at hlen
   have hrng:∀ x∈(0:Int) :: tl,x≤topOf (f:Int) + 1:=by
    obtain⟨ys,hy⟩:=List.getLast?_eq_some_iff.1 hp2.hl
    intro x hx
    have hp:=hp2.asc
    rw [hy] at hx hp
    rcases List.mem_append.1 hx with h | h
    ·have:=(List.pairwise_append.1 hp).2.2 x h _ (List.mem_singleton.2 rfl); omega
    ·rw [List.mem_singleton] at h; omega
   have hmain:=Zqq hf5 (a:=a) (b:=b) (by omega) (by omega) (m:=m) hm (z0:=C nr) (ps:=0 :: tl) (by omega) (g:=lk c) (fun v b' hb'=>by rw [hg v b' hb']; omega) (fun v h0 h1=>by
    refine ih (f + 1) nr _ _ _ (by omega) (by omega) ?_ (BOk.all ha _ _) (BOk.all hb _ _) (hz v h0 h1)
    have:=Zrx a (f:Int) v
    have:=Zrx b (f:Int) v
    omega) tl 0 0 fuel [] rfl (by unfold fuel; simp only [List.length_cons] at hlen; omega) (Upto.nil _) hs (Int.le_refl _) hrng (Nat.zero_le _)
   rw [show gr f []=[] from rfl,show (flt []).length=0 from rfl,show ((0:Nat):Int)=0 from rfl,hr] at hmain
   rw [hmain]
   simp only [Option.bind_some]
   unfold capd
   have hcl:=ho.len
   by_cases hm2:(flt c).length≤m
   ·rw [if_pos hm2,if_pos hm2]
    simp only
    rw [if_pos ⟨by omega,by unfold lim; omega⟩,Zqs hf5 c (fun x hx b' hb'=>by
     have h2:=ho.ok x hx
     have:=hg x.1.Lo b' (by rw [lk_mem ho hx (Int.le_refl _) h2.2.1]; exact hb')
     exact this) (by omega) (by omega)]
    rfl
   ·rw [if_neg hm2,if_neg hm2]
theorem Zqt:Canon (fun x y=>x || y) Z7:=by
 refine⟨rfl,fun nr a b m=>?_,fun nr f a b m hf=>?_⟩
 ·rw [Z7,if_pos (by decide)]
  unfold Zdb
  simp only [Option.bind_some]
  split <;> rfl
 ·rw [Z7,if_neg (by simpa using hf)]
  unfold Zdb
  simp only [Option.bind_some,Bool.or_self,Bool.not_false]
  cases (IntKind.wrap .i64 ((a.length:Int) + (b.length:Int)) == (0:Int)) <;> rfl
end Go.AM
set_option maxRecDepth 100000
namespace Go.AM
open Go
end Go.AM
set_option maxRecDepth 100000
namespace Go.AM
open Go
def mem (l:List Bx) (p:List Int):Bool:=mS (l.map toL) p
def CFb (l:List Bx):Prop:=CF tops5 (l.map toL)
theorem CF_vR:∀(ts:List Int) {l:List RL},CF ts l→∀ b∈l,vR ts b
 | [],l,h,b,hb=>by
  rcases h with rfl | rfl
  ·cases hb
  ·rw [List.mem_singleton] at hb; rw [hb]; trivial
 | t :: ts,l,⟨c,h1,h2,h3⟩,b,hb=>by
  subst h1
  obtain⟨x,hx,hb⟩:=List.mem_flatMap.1 hb
  obtain⟨b',hb',rfl⟩:=List.mem_map.1 hb
  have:=h2.ok x hx
  exact⟨this.1,this.2.1,this.2.2.1,CF_vR ts (h3 x hx) b' hb'⟩
theorem vR_ok {b:Bx} (h:vR tops5 (toL b)):BOk b:=by
 obtain⟨a0,a1,a2,b0,b1,b2,c0,c1,c2,d0,d1,d2,e0,e1,e2,_⟩:=h
 exact⟨⟨a0,a1,a2⟩,⟨b0,b1,b2⟩,⟨c0,c1,c2⟩,⟨d0,d1,d2⟩,⟨e0,e1,e2⟩⟩
theorem CFb.ok {l:List Bx} (h:CFb l):∀ b∈l,BOk b:=fun b hb=>vR_ok (CF_vR _ h _ (List.mem_map_of_mem hb))
theorem Zrc {l:List RL} (h:∀ b∈l,b.length=5):(l.map (pad 0)).map toL=l:=by
 rw [List.map_map]
 conv=>rhs; rw [← List.map_id l]
 exact List.map_congr_left fun b hb=>Zrv (h b hb)
theorem Zgm:∀ t∈tops5,0≤t:=by unfold tops5; simp
theorem Zsn (op:Bool→Bool→Bool) (a b:List Bx):∃ l:List Bx,Is op tops5 (a.map toL) (b.map toL) (l.map toL):=by
 obtain⟨l,h⟩:=Is.exists_ op tops5 Zgm (a.map toL) (b.map toL)
 refine⟨l.map (pad 0),?_⟩
 rw [Zrc (fun b hb=>CF_len _ h.cf b hb)]
 exact h
structure Can (op:Bool→Bool→Bool) (a b l:List Bx):Prop where
 cf:CFb l
 mem:∀ p,vP tops5 p→mem l p=op (mem a p) (mem b p)
theorem Can.is {op:Bool→Bool→Bool} {a b l:List Bx} (h:Can op a b l):Is op tops5 (a.map toL) (b.map toL) (l.map toL):=⟨h.cf,h.mem⟩
theorem Zrd {l l':List Bx} (h:l.map toL=l'.map toL):l=l':=by
 have:=congrArg (List.map ofL) h
 rw [List.map_map,List.map_map] at this
 have e:(ofL ∘ toL)=id:=funext fun b=>Zk6 b
 rw [e,List.map_id,List.map_id] at this
 exact this
theorem CFb.inj {l l':List Bx} (h:CFb l) (h':CFb l') (e:∀ p,vP tops5 p→mem l p=mem l' p):l=l':=Zrd (CF_inj _ h h' e)
theorem Can.inj {op:Bool→Bool→Bool} {a b l l':List Bx} (h:Can op a b l) (h':Can op a b l'):l=l':=h.cf.inj h'.cf fun p hp=>by rw [h.mem p hp,h'.mem p hp]
theorem Can.ex (op:Bool→Bool→Bool) (a b:List Bx):∃ l,Can op a b l:=by
 obtain⟨l,h⟩:=Zsn op a b
 exact⟨l,h.cf,h.mem⟩
theorem CFb.nil:CFb []:=CF_nil _
theorem Zry (p:List Int):mem [] p=false:=rfl
theorem Zu1 (l:List Bx):(l.map toL).map (pad 0)=l:=by
 rw [List.map_map]
 have e:(pad 0 ∘ toL)=id:=funext fun b=>Zk6 b
 rw [e,List.map_id]
theorem Zs7 {op:Bool→Bool→Bool} {C:Nat→Int→List Bx→List Bx→Int→Option (List Bx × Bool)} (hC:Canon op C) {a b l:List Bx} (hl:a.length + b.length≤400000) (ha:∀ x∈a,BOk x) (hb:∀ x∈b,BOk x) (h:Can op a b l) :
  C fuel 0 a b 4096=some (if l.length≤4096 then (l,true) else ([],false)):=by
 have:=Zt7 hC (m:=4096) (by omega) (by omega) 5 0 fuel a b (l.map toL) (by omega) (by unfold fuel; omega) hl ha hb h.is
 rw [show ((0:Nat):Int)=0 from rfl,show ((4096:Nat):Int)=4096 from rfl] at this
 rw [this]
 unfold capd
 rw [List.length_map,Zu1]
def capB (l:List Bx):List Bx × Int:=if l.length≤4096 then (l,0) else ([],3)
theorem Zog {a b l:List Bx} (hl:a.length + b.length≤400000) (ha:∀ x∈a,BOk x) (hb:∀ x∈b,BOk x) (h:Can (fun x y=>x || y) a b l):Zbk a b=some (capB l):=by
 unfold Zbk capB
 rw [Zs7 Zqt hl ha hb h]
 by_cases h:l.length≤4096
 ·rw [if_pos h,if_pos h]; rfl
 ·rw [if_neg h,if_neg h]; rfl
end Go.AM
set_option maxRecDepth 100000
namespace Go.AM
open Go
theorem Zix {a b:Zb}:Zc2 a b=true ↔ a=b:=by rw [eq_rg]; simp
structure RunTo (f:Nat) (l:List Bx) (r:Zb) (n:Nat):Prop where
 h1:n≤l.length
 eq:∀ i (h:i<l.length),i<n→(l[i]).get (f:Int)=r
 ne:∀(h:n<l.length),(l[n]).get (f:Int) ≠ r
theorem Zt8 {f:Nat} (hf:f<5) {l:List Bx} (hl:l.length≤1000000) {b0:Bx} (h0:l[0]? = some b0):∀(k j n:Nat),l.length - j=k→k<n→1≤j→j≤l.length→(∀ i (h:i<l.length),i<j→(l[i]).get (f:Int)=b0.get (f:Int)) →
  ∃ N:Nat,Zb5 (f:Int) l n (j:Int)=some (N:Int)∧j≤N∧RunTo f l (b0.get (f:Int)) N:=by
 intro k
 have hpos:0<l.length:=by
  rcases l with _ | ⟨x,l⟩
  ·simp at h0
  ·simp
 have i0:idx l (0:Int)=some b0:=by rw [show (0:Int)=((0:Nat):Int) from rfl,Zcl hpos,← List.getElem?_eq_getElem,h0]
 induction k with
 | zero=>
  intro j n hk hn h1 hj he
  cases n with
  | zero=>omega
  | succ n=>
  have hd:decide ((j:Int)<(l.length:Int))=false:=by simp; omega
  rw [Zb5,hd]
  exact⟨j,rfl,Nat.le_refl _,hj,he,fun h=>by omega⟩
 | succ k ih=>
  intro j n hk hn h1 hj he
  cases n with
  | zero=>omega
  | succ n=>
  have hjl:j<l.length:=by omega
  have hd:decide ((j:Int)<(l.length:Int))=true:=by simp; omega
  rw [Zb5,hd]
  simp only [Option.bind_some,if_true,Zcl hjl,i0]
  rw [if_pos ⟨by omega,by omega⟩,if_pos ⟨by omega,by omega⟩]
  simp only [Option.bind_some]
  by_cases hq:(l[j]).get (f:Int)=b0.get (f:Int)
  ·rw [if_pos (Zix.2 hq),wsucc (by omega)]
   obtain⟨N,e,g1,g2⟩:=ih (j + 1) n (by omega) (by omega) (by omega) (by omega) (fun i h hi=>by
    rcases Nat.lt_or_eq_of_le (Nat.lt_succ_iff.1 hi) with h2 | h2
    ·exact he i h h2
    ·subst h2; exact hq)
   exact⟨N,e,by omega,g2⟩
  ·rw [if_neg (fun h=>hq (Zix.1 h))]
   exact⟨j,rfl,Nat.le_refl _,hj,he,fun _=>hq⟩
theorem Zo6 {f:Nat} (hf:f<5) {l:List Bx} {r:Zb} {n:Nat} (hn:1≤n) (h:RunTo f l r n) (hl:l ≠ []) :
  l.map (sf f)=((l.take n).map (sf (f + 1))).map (r :: ·)++(l.drop n).map (sf f)∧(l.take n).map (sf (f + 1)) ≠ []∧∀ b,((l.drop n).map (sf f)).head? = some b→∃ r' b',b=r' :: b'∧r' ≠ r:=by
 refine⟨?_,?_,?_⟩
 ·conv=>lhs; rw [← List.take_append_drop n l,List.map_append]
  congr 1
  rw [List.map_map]
  refine List.map_congr_left fun b hb=>?_
  obtain⟨i,hi,rfl⟩:=List.getElem_of_mem hb
  have hi2:i<n∧i<l.length:=by rw [List.length_take] at hi; omega
  rw [List.getElem_take,Zh8 hf,h.eq i hi2.2 hi2.1]
  rfl
 ·intro e
  have:=congrArg List.length e
  simp only [List.length_map,List.length_take,List.length_nil] at this
  have:0<l.length:=List.length_pos_iff.2 hl
  omega
 ·intro b hb
  by_cases hnl:n<l.length
  ·rw [List.drop_eq_getElem_cons hnl] at hb
   simp only [List.map_cons,List.head?_cons,Option.some.injEq] at hb
   exact⟨_,_,by rw [← hb,Zh8 hf],h.ne hnl⟩
  ·rw [List.drop_eq_nil_of_le (by omega)] at hb
   simp at hb
def zpre (f:Nat) (b:Bx):Bx:=pad (f + 1) (sf (f + 1) b)
theorem Zs8 {f:Nat} (hf:f<5) {v:List Bx} {i:Nat} (hi:i<v.length):Zbe (f:Int) (i:Int) fuel v 0=some (v.set i (zpre f v[i])):=by
 obtain⟨n,hn⟩:∃ n,fuel=n + 6:=⟨fuel - 6,by unfold fuel; omega⟩
 rw [hn]
 have stop:∀(k:Nat) (m:Nat) (w:List Bx),f<k→Zbe (f:Int) (i:Int) (m + 1) w (k:Int)=some w:=by
  intro k m w hk
  rw [Zbe,if_neg (by simp; omega)]
 have nx:∀(k:Nat) (m:Nat) (x:Bx),k<5→k≤f→Zbe (f:Int) (i:Int) (m + 1) (v.set i x) (k:Int)=Zbe (f:Int) (i:Int) m (v.set i (x.set (k:Int) zr)) ((k + 1:Nat):Int):=by
  intro k m x hk hkf
  rw [Zbe,if_pos (by simp; omega),Zcl (show i<(v.set i x).length by rw [List.length_set]; exact hi),List.getElem_set_self]
  simp only [Option.bind_some,Int.toNat_natCast]
  rw [if_pos ⟨by omega,by omega⟩,wsucc (by omega),List.set_set]
  rfl
 have first:v=v.set i v[i]:=(List.set_getElem_self hi).symm
 conv=>lhs; rw [first]
 rw [show (0:Int)=((0:Nat):Int) from rfl]
 rcases fiveN hf with rfl | rfl | rfl | rfl | rfl
 ·rw [nx 0 _ _ (by omega) (by omega),stop _ _ _ (by omega)]; rfl
 ·rw [nx 0 _ _ (by omega) (by omega),nx 1 _ _ (by omega) (by omega),stop _ _ _ (by omega)]; rfl
 ·rw [nx 0 _ _ (by omega) (by omega),nx 1 _ _ (by omega) (by omega),nx 2 _ _ (by omega) (by omega),stop _ _ _ (by omega)]; rfl
 ·rw [nx 0 _ _ (by omega) (by omega),nx 1 _ _ (by omega) (by omega),nx 2 _ _ (by omega) (by omega),nx 3 _ _ (by omega) (by omega),stop _ _ _ (by omega)]; rfl
 ·rw [nx 0 _ _ (by omega) (by omega),nx 1 _ _ (by omega) (by omega),nx 2 _ _ (by omega) (by omega),nx 3 _ _ (by omega) (by omega),nx 4 _ _ (by omega) (by omega),stop _ _ _ (by omega)]; rfl
def stepN {α:Type} (g:α→α) (s:List α) (i:Nat) (_:α):List α:=match s[i]? with
 | some x=>s.set i (g x)
 | none=>s
theorem Znu {α:Type} (g:α→α):∀(l pre:List α),foldI (stepN g) (pre++l) pre.length l=pre++l.map g
 | [],pre=>by simp [foldI]
 | x :: l,pre=>by
  have e:foldI (stepN g) (pre++x :: l) pre.length (x :: l)=foldI (stepN g) (stepN g (pre++x :: l) pre.length x) (pre.length + 1) l:=rfl
  rw [e]
  have h1:(pre++x :: l)[pre.length]? = some x:=by rw [List.getElem?_append_right (Nat.le_refl _),Nat.sub_self]; rfl
  have h2:(pre++x :: l).set pre.length (g x)=(pre++[g x])++l:=by rw [List.set_append_right _ _ (Nat.le_refl _),Nat.sub_self]; simp
  have h3:stepN g (pre++x :: l) pre.length x=(pre++[g x])++l:=by unfold stepN; rw [h1]; exact h2
  rw [h3]
  have:=Znu g l (pre++[g x])
  rw [List.length_append,List.length_singleton] at this
  rw [this]
  simp
theorem Zs9 {f:Nat} (hf:f<5) {l:List Bx} (hl:l.length≤2000000000):Zea (f:Int) l=some (l.map (zpre f)):=by
 unfold Zea
 rw [if_pos (by unfold lim; omega)]
 have:=Zhu (L:=Zcn (f:Int) l) l (stepN (zpre f)) id (fun _ s=>s.length=l.length) (by omega) (fun n s i hi hs=>by
  rw [Zcn]
  simp only [show ((i:Int)<(l.length:Int)) from by omega,decide_true,if_true,Option.bind_some,wsucc (by omega:i<1000000000001)]
  rw [Zs8 hf (show i<s.length by omega)]
  have h3:stepN (zpre f) s i l[i]=s.set i (zpre f s[i]):=by unfold stepN; rw [List.getElem?_eq_getElem (show i<s.length by omega)]
  rw [h3]
  exact⟨rfl,by rw [List.length_set]; exact hs⟩) (fun n s hs=>by rw [Zcn]; simp) l rfl
 have h2:=Znu (zpre f) l []
 rw [List.nil_append,List.nil_append,List.length_nil] at h2
 rw [this.1,h2]
 rfl
def lastG (f:Nat):Option Cell→Zl
 | none=>Zd8
 | some x=>gr1 f x
theorem Zpk {f:Nat} (hf:f<5) {z0:Int→List Bx→Option Bool}
  (hz:∀ l:List Bx,l.length≤1000000→(∀ x∈l,BOk x)→∃ r,z0 ((f + 1:Nat):Int) l=some r∧(r=true ↔ CF (tops5.drop (f + 1)) (l.map (sf (f + 1))))) :
  ∀(K n:Nat) (l:List Bx) (last:Option Cell),l.length≤K→K<n→l.length≤1000000→(∀ x∈l,BOk x)→(∀ y∈last,y.2 ≠ []∧y.2.length≤1000000∧0≤y.1.Hi∧y.1.Hi<4294967296∧∀ b∈y.2,b.length=5 - (f + 1)) →
  ∃ o,Zbm (f:Int) z0 n (lastG f last) l=some o∧((∃ c,l.map (sf f)=flt c∧Nx (topOf (f:Int)) (tops5.drop (f + 1)) last c)→∃ g,o=.inl g)∧(¬ (∃ c,l.map (sf f)=flt c∧Nx (topOf (f:Int)) (tops5.drop (f + 1)) last c)→o=.inr false):=by
 intro K
 induction K with
 | zero=>
  intro n l last hlK hn hl hok hlast
  have:l=[]:=List.length_eq_zero_iff.1 (by omega)
  subst this
  cases n with
  | zero=>omega
  | succ n=>
  rw [Zbm,if_neg (by simp)]
  exact⟨_,rfl,fun _=>⟨_,rfl⟩,fun h=>absurd ⟨[],rfl,Nx.nil ..⟩ h⟩
 | succ K ih=>
  intro n l last hlK hn hl hok hlast
  cases n with
  | zero=>omega
  | succ n=>
  cases hll:l with
  | nil=>
   rw [Zbm,if_neg (by simp)]
   exact⟨_,rfl,fun _=>⟨_,rfl⟩,fun h=>absurd ⟨[],rfl,Nx.nil ..⟩ h⟩
  | cons b0 l'=>
  have hne:l ≠ []:=by rw [hll]; exact List.cons_ne_nil _ _
  have hpos:0<l.length:=List.length_pos_iff.2 hne
  have h0:l[0]? = some b0:=by rw [hll]; rfl
  have i0:idx l (0:Int)=some b0:=by rw [show (0:Int)=((0:Nat):Int) from rfl,Zcl hpos,← List.getElem?_eq_getElem,h0]
  obtain⟨N,e1,g1,g2⟩:=Zt8 hf hl h0 (l.length - 1) 1 fuel rfl (by unfold fuel; omega) (Nat.le_refl _) (by omega) (fun i h hi=>by
   have:i=0:=by omega
   subst this
   rw [List.getElem?_eq_getElem h,Option.some.injEq] at h0
   rw [h0])
  rw [← hll]
  obtain⟨s1,s2,s3⟩:=Zo6 hf g1 g2 hne
  have hb0:BOk b0:=hok b0 (by rw [hll]; exact List.mem_cons_self ..)
  have hb0r:=hb0.at_ hf
  have htop:=topN hf
  rw [Zbm,if_pos (by simp; omega)]
  rw [show ((1:Nat):Int)=1 from rfl] at e1
  rw [e1]
  simp only [Option.bind_some,i0,Int.toNat_natCast,Int.toNat_zero,List.drop_zero]
  have hN:=g2.h1
  rw [if_pos ⟨by omega,by omega⟩,if_pos ⟨by omega,by omega,by omega⟩]
  have htl:(l.take N).length≤1000000:=by rw [List.length_take]; omega
  rw [Zs9 hf (by omega)]
  simp only [Option.bind_some]
  rw [if_pos ⟨by omega,by omega,by omega⟩,wsucc (by omega)]
  obtain⟨rv,z1,z2⟩:=hz (l.take N) htl (fun x hx=>hok x (List.mem_of_mem_take hx))
  rw [z1]
  simp only [Option.bind_some]
  rw [s1]
  have hrun:=Nx.run (t:=topOf (f:Int)) (ts:=tops5.drop (f + 1)) (last:=last) (r:=b0.get (f:Int)) s2 s3
  rw [hrun]
  cases rv with
  | false=>
   simp only [Bool.not_false,if_true]
   have hncf:¬ CF (tops5.drop (f + 1)) ((l.take N).map (sf (f + 1))):=fun h=>by have:=z2.2 h; cases this
   exact⟨_,rfl,fun h=>absurd h.2.1 hncf,fun _=>rfl⟩
  | true=>
   simp only [Bool.not_true,Bool.false_eq_true,if_false]
   have hcf:=z2.1 rfl
   have hzl:∀ b∈(l.take N).map (sf (f + 1)),b.length=5 - (f + 1):=fun b hb=>by
    obtain⟨x,_,rfl⟩:=List.mem_map.1 hb
    exact sf_len (by omega) x
   have hzm:(l.take N).map (zpre f)=((l.take N).map (sf (f + 1))).map (pad (f + 1)):=by rw [List.map_map]; rfl
   have hgap:∃ og:Unit ⊕ Bool,(if decide (((lastG f last).f_rest.length:Int) > 0)=true then
      (if decide ((b0.get (f:Int)).Lo≤(lastG f last).f_values.Hi)=true then some true else
       (if ((b0.get (f:Int)).Lo == (IntKind.wrap .u32 ((lastG f last).f_values.Hi + (1:Int))))=true then
        (Za8 ((l.take N).map (zpre f)) (lastG f last).f_rest).bind fun(r223:Bool)=>
        some r223
        else some false).bind fun(v225:Bool)=>
       some v225
       ).bind fun(v227:Bool)=>
      if v227=true then
       (some (.inr false):Option (Unit ⊕ Bool))
      else
       some (.inl ())
     else
      some (.inl ()))=some og∧((∀ y∈last,gp y (b0.get (f:Int),(l.take N).map (sf (f + 1))))→og=.inl ())∧(¬ (∀ y∈last,gp y (b0.get (f:Int),(l.take N).map (sf (f + 1))))→og=.inr false):=by
    cases last with
    | none=>
     rw [if_neg (show ¬ decide (((lastG f none).f_rest.length:Int) > 0)=true from fun h=>by cases h)]
     exact⟨_,rfl,fun _=>rfl,fun h=>absurd (fun y hy=>by cases hy) h⟩
    | some y=>
     obtain⟨y1,y2,y3,y4,y5⟩:=hlast y rfl
     have hyl:0<y.2.length:=List.length_pos_iff.2 y1
     have hall:(∀ z∈some y,gp z (b0.get (f:Int),(l.take N).map (sf (f + 1)))) ↔ gp y (b0.get (f:Int),(l.take N).map (sf (f + 1))):=⟨fun h=>h y rfl,fun h z hz=>by cases hz; exact h⟩
     simp only [lastG,show (gr1 f y).f_rest=y.2.map (pad (f + 1)) from rfl,show (gr1 f y).f_values=y.1 from rfl,List.length_map]
     rw [if_pos (by simp; omega),hall]
     unfold gp
     by_cases c1:(b0.get (f:Int)).Lo≤y.1.Hi
     ·rw [if_pos (decide_eq_true c1)]
      simp only [Option.bind_some,if_true]
      exact⟨_,rfl,fun h=>by have:=h.1; omega,fun _=>rfl⟩
     ·rw [if_neg (by simpa using c1)]
      rw [wu32 (x:=y.1.Hi + 1) (by omega) (by omega)]
      by_cases c2:(b0.get (f:Int)).Lo=y.1.Hi + 1
      ·rw [if_pos (by simpa using c2),Zqn (by rw [List.length_map]; omega),hzm]
       have hmi:=Zl1 (f:=f + 1) (by omega) hzl y5
       simp only [Option.bind_some,decide_eq_true_eq,hmi]
       by_cases c3:(l.take N).map (sf (f + 1))=y.2
       ·rw [if_pos c3]
        exact⟨_,rfl,fun h=>absurd c3.symm (h.2 (by omega)),fun _=>rfl⟩
       ·rw [if_neg c3]
        exact⟨_,rfl,fun _=>rfl,fun h=>absurd ⟨by omega,fun _ h=>c3 h.symm⟩ h⟩
      ·rw [if_neg (by simpa using c2)]
       simp only [Option.bind_some,Bool.false_eq_true,if_false]
       exact⟨_,rfl,fun _=>rfl,fun h=>absurd ⟨by omega,fun h=>absurd h.symm c2⟩ h⟩
   obtain⟨og,og1,og2,og3⟩:=hgap
   rw [og1]
   by_cases hg:∀ y∈last,gp y (b0.get (f:Int),(l.take N).map (sf (f + 1)))
   ·rw [og2 hg]
    simp only [Option.bind_some]
    rw [if_pos ⟨by omega,by omega,by omega⟩,List.take_length]
    rw [show (Zl.mk (b0.get (f:Int)) ((l.take N).map (zpre f)))=lastG f (some (b0.get (f:Int),(l.take N).map (sf (f + 1)))) by rw [hzm]; rfl]
    obtain⟨o,o1,o2,o3⟩:=ih n (l.drop N) (some (b0.get (f:Int),(l.take N).map (sf (f + 1)))) (by rw [List.length_drop]; omega) (by omega) (by rw [List.length_drop]; omega) (fun x hx=>hok x (List.mem_of_mem_drop hx)) (fun y hy=>by
     cases hy
     refine⟨s2,by rw [List.length_map]; exact htl,by show 0≤(b0.get (f:Int)).Hi; omega,by show (b0.get (f:Int)).Hi<4294967296; omega,hzl⟩)
    refine⟨o,o1,fun h=>o2 h.2.2.2,fun h=>o3 fun h2=>h ⟨⟨by omega,by omega,by omega⟩,hcf,hg,h2⟩⟩
   ·rw [og3 hg]
    simp only [Option.bind_some]
    exact⟨_,rfl,fun h=>absurd h.2.2.1 hg,fun _=>rfl⟩
theorem Zso:∀(k f nr:Nat) (l:List Bx),f + k=5→k<nr→l.length≤1000000→(∀ x∈l,BOk x)→∃ r,Zbb nr (f:Int) l=some r∧(r=true ↔ CF (tops5.drop f) (l.map (sf f))):=by
 intro k
 induction k with
 | zero=>
  intro f nr l hf hn hl hok
  have:f=5:=by omega
  subst this
  cases nr with
  | zero=>omega
  | succ nr=>
  rw [Zbb,if_pos (by decide)]
  refine⟨_,rfl,?_⟩
  show _ ↔ (l.map (sf 5)=[]∨l.map (sf 5)=[[]])
  rcases l with _ | ⟨x,_ | ⟨y,l⟩⟩
  ·simp
  ·exact⟨fun _=>Or.inr rfl,fun _=>by simp⟩
  ·constructor
   ·intro h; simp at h; omega
   ·rintro(h | h) <;> simp at h
 | succ k ih=>
  intro f nr l hf hn hl hok
  have hf5:f<5:=by omega
  cases nr with
  | zero=>omega
  | succ nr=>
  rw [Zbb,if_neg (by simp; omega),Zhv hf5,CF_iff]
  obtain⟨o,o1,o2,o3⟩:=Zpk hf5 (z0:=Zbb nr) (fun l hl hok=>ih (f + 1) nr l (by omega) (by omega) hl hok) l.length fuel l none (Nat.le_refl _) (by unfold fuel; omega) hl hok (fun y hy=>(by cases hy))
  rw [show lastG f none=Zd8 from rfl] at o1
  rw [o1]
  by_cases h:∃ c,l.map (sf f)=flt c∧Nx (topOf (f:Int)) (tops5.drop (f + 1)) none c
  ·obtain⟨g,rfl⟩:=o2 h
   exact⟨true,rfl,fun _=>h,fun _=>rfl⟩
  ·rw [o3 h]
   exact⟨false,rfl,fun h=>(by cases h),fun h2=>absurd h2 h⟩
structure VS (l:List Bx):Prop where
 len:l.length≤4096
 ok:∀ x∈l,BOk x
 cf:CFb l
theorem VS.of {l:List Bx} (h:CFb l) (hl:l.length≤4096):VS l:=⟨hl,h.ok,h⟩
theorem Zo7 {l:List Bx} (hin:∀ x∈l,BIn x):(l.filter vB).length=l.length ↔ ∀ x∈l,BOk x:=by
 rw [List.length_filter_eq_length_iff]
 exact⟨fun h x hx=>vB_ok (hin x hx) (h x hx),fun h x hx=>ok_vB (h x hx)⟩
theorem Zta {l:List Bx} (hl:l.length≤1000000) (hin:∀ x∈l,BIn x):∃ r,Zdn l=some r∧(r=true ↔ VS l):=by
 unfold Zdn
 by_cases h1:l.length≤4096
 ·have hd:decide ((l.length:Int)≤4096)=true:=by simp; omega
  rw [hd]
  simp only [Option.bind_some,if_true]
  rw [Zo5 (by omega)]
  simp only [Option.bind_some]
  by_cases h2:∀ x∈l,BOk x
  ·have he:(((l.filter vB).length:Int) == (l.length:Int))=true:=by rw [(Zo7 hin).2 h2]; simp
   rw [he]
   simp only [if_true]
   obtain⟨r,e,g⟩:=Zso 5 0 fuel l (by omega) (by unfold fuel; omega) hl h2
   rw [show ((0:Nat):Int)=0 from rfl] at e
   rw [e]
   refine⟨r,rfl,g.trans ⟨fun h=>⟨h1,h2,h⟩,fun h=>h.cf⟩⟩
  ·have he:(((l.filter vB).length:Int) == (l.length:Int))=false:=by
    have h3:¬ (l.filter vB).length=l.length:=fun h=>h2 ((Zo7 hin).1 h)
    simp only [beq_eq_false_iff_ne,ne_eq]
    omega
   rw [he]
   exact⟨false,rfl,fun h=>(by cases h),fun h=>absurd h.ok h2⟩
 ·have hd:decide ((l.length:Int)≤4096)=false:=by simp; omega
  rw [hd]
  exact⟨false,rfl,fun h=>(by cases h),fun h=>absurd h.len h1⟩
end Go.AM
set_option maxRecDepth 100000
namespace Go.AM
open Go
end Go.AM
set_option maxRecDepth 100000
namespace Go.AM
open Go
def sumL {α:Type} (f:α→Nat) (l:List α):Nat:=l.foldr (fun x n=>f x + n) 0
theorem Zdf {α:Type} (f:α→Nat) (x:α) (l:List α):sumL f (x :: l)=f x + sumL f l:=rfl
theorem Zjm {α:Type} (f g:α→Nat) (l:List α):sumL (fun x=>f x + g x) l=sumL f l + sumL g l:=by
 induction l with
 | nil=>rfl
 | cons x l ih=>rw [Zdf,Zdf,Zdf,ih]; omega
theorem Zu2 {α:Type} {f g:α→Nat} {l:List α} (h:∀ x∈l,f x≤g x):sumL f l≤sumL g l:=by
 induction l with
 | nil=>exact Nat.le_refl _
 | cons x l ih=>
  rw [Zdf,Zdf]
  have:=h x (List.mem_cons_self ..)
  have:=ih fun y hy=>h y (List.mem_cons_of_mem _ hy)
  omega
theorem Zmu {α:Type} (k:Nat) (f:α→Nat) (l:List α):sumL (fun x=>k * f x) l=k * sumL f l:=by
 induction l with
 | nil=>rfl
 | cons x l ih=>rw [Zdf,Zdf,ih,Nat.mul_add]
theorem Zrz {α:Type} (p:α→Bool) (f:α→Nat) (l:List α):sumL (fun x=>if p x=true then f x else 0) l=sumL f (l.filter p):=by
 induction l with
 | nil=>rfl
 | cons x l ih=>
  rw [Zdf,ih,List.filter_cons]
  cases p x
  ·simp
  ·simp [Zdf]
theorem Znv {α:Type} (k:Nat) (l:List α):sumL (fun _=>k) l=l.length * k:=by
 induction l with
 | nil=>simp [sumL]
 | cons x l ih=>rw [Zdf,ih,List.length_cons,Nat.succ_mul]; omega
theorem Zu3 (c:List Cell):(flt c).length=sumL (fun x=>x.2.length) c:=by
 induction c with
 | nil=>rfl
 | cons x c ih=>rw [Zc8,List.length_append,List.length_map,ih,Zdf]
theorem Zl2 (x:Cell) (d:List Cell) (v:Int):(lk (x :: d) v).length=(if inR v x.1=true then x.2.length else 0) + (lk d v).length:=by
 rw [Zet,List.length_append]
 cases inR v x.1 <;> simp
theorem sum_lk {M:Nat} (vs:List Int):∀(d:List Cell),(∀ x∈d,(vs.filter (inR · x.1)).length≤M)→sumL (fun v=>(lk d v).length) vs≤M * (flt d).length
 | [],_=>by
  have:sumL (fun v=>(lk ([]:List Cell) v).length) vs=0:=by
   rw [show (fun v:Int=>(lk ([]:List Cell) v).length)=fun _=>0 from rfl,Znv]; simp
  omega
 | x :: d,h=>by
  have e:(fun v=>(lk (x :: d) v).length)=fun v=>(if inR v x.1=true then x.2.length else 0) + (lk d v).length:=funext fun v=>Zl2 x d v
  have ih:=sum_lk vs d fun y hy=>h y (List.mem_cons_of_mem _ hy)
  have hx:=h x (List.mem_cons_self ..)
  rw [e,Zjm,Zrz (fun v=>inR v x.1),Znv,Zc8,List.length_append,List.length_map,Nat.mul_add]
  have:=Nat.mul_le_mul_right x.2.length hx
  omega
theorem Zr0 (vs:List Int) (d':List Cell):∀(d:List Cell),(∀ x∈d,∀ y∈d',((vs.filter (inR · x.1)).filter (inR · y.1)).length≤1)→sumL (fun v=>(lk d v).length * (lk d' v).length) vs≤(flt d).length * (flt d').length
 | [],_=>by
  have:sumL (fun v=>(lk ([]:List Cell) v).length * (lk d' v).length) vs=0:=by
   rw [show (fun v:Int=>(lk ([]:List Cell) v).length * (lk d' v).length)=fun v=>0 * (lk d' v).length from rfl,Zmu]; simp
  omega
 | x :: d,h=>by
  have e:(fun v=>(lk (x :: d) v).length * (lk d' v).length)=fun v=>(if inR v x.1=true then x.2.length * (lk d' v).length else 0) + (lk d v).length * (lk d' v).length:=funext fun v=>by
   rw [Zl2,Nat.add_mul]
   cases inR v x.1 <;> simp
  have ih:=Zr0 vs d' d fun y hy=>h y (List.mem_cons_of_mem _ hy)
  have h1:=sum_lk (M:=1) (vs.filter (inR · x.1)) d' fun y hy=>h x (List.mem_cons_self ..) y hy
  rw [e,Zjm,Zrz (fun v=>inR v x.1) (fun v=>x.2.length * (lk d' v).length),Zmu,Zc8,List.length_append,List.length_map,Nat.add_mul]
  have:=Nat.mul_le_mul_left x.2.length h1
  rw [Nat.one_mul] at this
  omega
theorem Zo8 {l:List Int} (h:l.Pairwise (·<·)):l.Nodup:=h.imp fun h=>by omega
def ends2 (c:List Cell):List Int:=c.flatMap fun x=>[x.1.Lo,x.1.Hi + 1]
theorem Ztb (c:List Cell):(ends2 c).length=2 * c.length:=by
 induction c with
 | nil=>rfl
 | cons x c ih=>unfold ends2 at *; rw [List.flatMap_cons,List.length_append,ih]; simp; omega
theorem Zmv {t:Int} {c:List Cell} (h:Ord t c) {x:Cell} (hx:x∈c) {v:Int} (hv:v∈ends2 c) (hr:inR v x.1=true):v=x.1.Lo:=by
 rw [Zdd] at hr
 obtain⟨y,hy,hvy⟩:=List.mem_flatMap.1 hv
 have hxo:=h.ok x hx
 have hyo:=h.ok y hy
 obtain⟨i,hi,rfl⟩:=List.getElem_of_mem hx
 obtain⟨j,hj,rfl⟩:=List.getElem_of_mem hy
 have hp:=List.pairwise_iff_getElem.1 h.pw
 simp only [List.mem_cons,List.not_mem_nil,or_false] at hvy
 rcases Nat.lt_trichotomy i j with h1 | h1 | h1
 ·have:=(hp i j hi hj h1).1
  omega
 ·subst h1; omega
 ·have:=(hp j i hj hi h1).1
  omega
theorem Zr1 {t:Int} {c:List Cell} (h:Ord t c) {v:Int} (hv:¬ v∈ends2 c):lk c v=lk c (v - 1):=by
 have key:∀ x∈c,x.1.Lo ≠ v∧x.1.Hi + 1 ≠ v:=fun x hx=>⟨fun e=>hv (List.mem_flatMap.2 ⟨x,hx,by simp [e]⟩),fun e=>hv (List.mem_flatMap.2 ⟨x,hx,by simp [e]⟩)⟩
 clear h hv
 induction c with
 | nil=>rfl
 | cons x c ih=>
  rw [Zet,Zet,ih fun y hy=>key y (List.mem_cons_of_mem _ hy)]
  have:=key x (List.mem_cons_self ..)
  have e:inR v x.1=inR (v - 1) x.1:=by rw [Bool.eq_iff_iff,Zdd,Zdd]; omega
  rw [e]
theorem Znw {op:Bool→Bool→Bool} (hff:op false false=false):∀(ts:List Int) {a b l:List RL},CF ts a→CF ts b→Is op ts a b l→l.length≤4 * ts.length * (a.length * b.length) + a.length + b.length
 | [],a,b,l,ha,hb,h=>by
  have hm:=h.mem [] trivial
  rcases ha with rfl | rfl <;> rcases hb with rfl | rfl <;> rcases h.cf with rfl | rfl <;> simp [mS,mB,hff] at hm ⊢
 | t :: ts,a,b,l,ha,hb,h=>by
  obtain⟨ca,rfl,hao,hac⟩:=ha
  obtain⟨cb,rfl,hbo,hbc⟩:=hb
  obtain⟨c,rfl,ho,hc⟩:=h.cf
  have hat:∀ v,0≤v→v≤t→Is op ts (lk ca v) (lk cb v) (lk c v):=fun v h0 h1=>by
   have:=Is.at_ ho hc h h0 h1
   rw [Zgp,Zgp] at this
   exact this
  have hvs:(c.map (·.1.Lo)).Pairwise (·<·):=by
   rw [List.pairwise_map]
   refine List.Pairwise.imp_of_mem ?_ ho.pw
   intro x y hx _ hg
   have:=ho.ok x hx
   have:=hg.1
   omega
  have hin:∀ v∈c.map (·.1.Lo),v∈ends2 ca∨v∈ends2 cb:=by
   intro v hv
   obtain⟨x,hx,rfl⟩:=List.mem_map.1 hv
   have hxo:=ho.ok x hx
   apply Classical.byContradiction
   intro hn
   have h1:¬ x.1.Lo∈ends2 ca:=fun h=>hn (Or.inl h)
   have h2:¬ x.1.Lo∈ends2 cb:=fun h=>hn (Or.inr h)
   have e1:=Zr1 hao h1
   have e2:=Zr1 hbo h2
   have hx1:lk c x.1.Lo=x.2:=lk_mem ho hx (Int.le_refl _) hxo.2.1
   have g1:=hat x.1.Lo hxo.1 (by omega)
   by_cases h0:x.1.Lo=0
   ·rw [e1,e2,lk_out hao (by omega),lk_out hbo (by omega)] at g1
    have:lk c x.1.Lo=[]:=g1.inj ⟨CF_nil _,fun p _=>by rw [mS_nil,hff]⟩
    rw [hx1] at this
    exact hxo.2.2.2 this
   ·have g2:=hat (x.1.Lo - 1) (by omega) (by omega)
    rw [e1,e2] at g1
    have e3:=g1.inj g2
    rw [hx1] at e3
    obtain⟨y,hy,h3,h4⟩:=Zk5 (c:=c) (v:=x.1.Lo - 1) (by rw [← e3]; exact hxo.2.2.2)
    rw [lk_mem ho hy h3 h4] at e3
    obtain⟨i,hi,rfl⟩:=List.getElem_of_mem hx
    obtain⟨j,hj,rfl⟩:=List.getElem_of_mem hy
    have hp:=List.pairwise_iff_getElem.1 ho.pw
    rcases Nat.lt_trichotomy i j with h5 | h5 | h5
    ·have:=(hp i j hi hj h5).1; omega
    ·subst h5; omega
    ·have hg:=hp j i hj hi h5
     have:=hg.1
     exact hg.2 (by omega) e3.symm
  generalize hV:c.map (·.1.Lo)=vs at hvs hin
  have cnt:∀ {d d':List Cell},Ord t d→(∀ v∈vs,v∈ends2 d∨v∈ends2 d')→∀ x∈d,(vs.filter (inR · x.1)).length≤2 * d'.length + 1:=by
   intro d d' hd hdv x hx
   have hs:(vs.filter (inR · x.1)) ⊆ x.1.Lo :: ends2 d':=by
    intro v hv
    obtain⟨h1,h2⟩:=List.mem_filter.1 hv
    rcases hdv v h1 with h3 | h3
    ·rw [Zmv hd hx h3 h2]; exact List.mem_cons_self ..
    ·exact List.mem_cons_of_mem _ h3
   have:=List.Nodup.length_le_of_subset (Zo8 (hvs.filter _)) hs
   rw [List.length_cons,Ztb] at this
   exact this
  have s1:=sum_lk vs ca (cnt hao hin)
  have s2:=sum_lk vs cb (cnt hbo fun v hv=>(hin v hv).symm)
  have s3:=Zr0 vs cb ca (fun x hx y hy=>by
   have hs:((vs.filter (inR · x.1)).filter (inR · y.1)) ⊆ [max x.1.Lo y.1.Lo]:=by
    intro v hv
    obtain⟨h1,h2⟩:=List.mem_filter.1 hv
    obtain⟨h3,h4⟩:=List.mem_filter.1 h1
    have h2':=Zdd.1 h2
    have h4':=Zdd.1 h4
    rw [List.mem_singleton]
    rcases hin v h3 with h5 | h5
    ·have:=Zmv hao hx h5 h4; omega
    ·have:=Zmv hbo hy h5 h2; omega
   have:=List.Nodup.length_le_of_subset (Zo8 ((hvs.filter _).filter _)) hs
   simpa using this)
  have total:(flt c).length≤sumL (fun v=>4 * ts.length * ((lk ca v).length * (lk cb v).length) + (lk ca v).length + (lk cb v).length) vs:=by
   rw [Zu3,← hV]
   have e:∀(d:List Cell) (f:Int→Nat),sumL f (d.map (·.1.Lo))=sumL (fun x=>f x.1.Lo) d:=by
    intro d f
    induction d with
    | nil=>rfl
    | cons x d ih=>rw [List.map_cons,Zdf,Zdf,ih]
   rw [e]
   refine Zu2 fun x hx=>?_
   have hxo:=ho.ok x hx
   have g1:=hat x.1.Lo hxo.1 (by omega)
   rw [lk_mem ho hx (Int.le_refl _) hxo.2.1] at g1
   exact Znw hff ts (CF_lk hao hac _) (CF_lk hbo hbc _) g1
  rw [Zjm,Zjm,Zmu] at total
  have la:=hao.len
  have lb:=hbo.len
  have m3:=Nat.mul_le_mul_left (4 * ts.length) s3
  have n1:(2 * cb.length + 1) * (flt ca).length≤(2 * (flt cb).length + 1) * (flt ca).length:=Nat.mul_le_mul_right _ (by omega)
  have n2:(2 * ca.length + 1) * (flt cb).length≤(2 * (flt ca).length + 1) * (flt cb).length:=Nat.mul_le_mul_right _ (by omega)
  rw [Nat.add_mul,Nat.one_mul] at n1 n2
  have c1:2 * (flt cb).length * (flt ca).length=2 * ((flt ca).length * (flt cb).length):=by rw [Nat.mul_assoc,Nat.mul_comm (flt cb).length]
  have c2:2 * (flt ca).length * (flt cb).length=2 * ((flt ca).length * (flt cb).length):=by rw [Nat.mul_assoc]
  have n1':(2 * cb.length + 1) * (flt ca).length≤(2 * (flt cb).length) * (flt ca).length + (flt ca).length:=by
   have:=Nat.mul_le_mul_right (flt ca).length (show 2 * cb.length + 1≤2 * (flt cb).length + 1 by omega)
   rw [Nat.add_mul (2 * (flt cb).length),Nat.one_mul] at this
   exact this
  have n2':(2 * ca.length + 1) * (flt cb).length≤(2 * (flt ca).length) * (flt cb).length + (flt cb).length:=by
   have:=Nat.mul_le_mul_right (flt cb).length (show 2 * ca.length + 1≤2 * (flt ca).length + 1 by omega)
   rw [Nat.add_mul (2 * (flt ca).length),Nat.one_mul] at this
   exact this
  rw [c1] at n1'
  rw [c2] at n2'
  have fin:4 * (t :: ts).length * ((flt ca).length * (flt cb).length)=4 * ts.length * ((flt ca).length * (flt cb).length) + 4 * ((flt ca).length * (flt cb).length):=by
   rw [List.length_cons,Nat.mul_add,Nat.add_mul]
  omega
theorem Can.size {op:Bool→Bool→Bool} (hff:op false false=false) {a b l:List Bx} (ha:CFb a) (hb:CFb b) (h:Can op a b l):l.length≤20 * (a.length * b.length) + a.length + b.length:=by
 have:=Znw hff tops5 ha hb h.is
 rw [List.length_map,List.length_map,List.length_map] at this
 exact this
end Go.AM
set_option maxRecDepth 100000
namespace Go.AM
open Go
noncomputable def can (op:Bool→Bool→Bool) (a b:List Bx):List Bx:=(Can.ex op a b).choose
theorem Zjn (op:Bool→Bool→Bool) (a b:List Bx):Can op a b (can op a b):=(Can.ex op a b).choose_spec
theorem Can.eq {op:Bool→Bool→Bool} {a b l:List Bx} (h:Can op a b l):can op a b=l:=(Zjn op a b).inj h
def oO (x y:Bool):Bool:=x || y
theorem ok_vR {b:Bx} (h:BOk b):vR tops5 (toL b):=
 ⟨h.h0.h0,h.h0.h1,h.h0.h2,h.h1.h0,h.h1.h1,h.h1.h2,h.h2.h0,h.h2.h1,h.h2.h2,h.h3.h0,h.h3.h1,h.h3.h2,h.h4.h0,h.h4.h1,h.h4.h2,trivial⟩
noncomputable def mkF:List Bx→List Bx→List Bx × Int
 | s,[]=>(s,0)
 | s,b :: l=>if (can oO s [b]).length≤4096 then mkF (can oO s [b]) l else ([],3)
noncomputable def mk (l:List Bx):List Bx × Int:=mkF [] (l.filter vB)
theorem combO {a b:List Bx} (hl:a.length + b.length≤400000) (ha:∀ x∈a,BOk x) (hb:∀ x∈b,BOk x):Zbk a b=some (capB (can oO a b)):=Zog hl ha hb (Zjn oO a b)
theorem Zu4 (r:List Bx) (hr:r.length≤1000000) (hok:∀ x∈r,BOk x):∀(K i n:Nat) (s:List Bx),r.length - i=K→K<n→VS s→i≤r.length→∃ o,Zcq r n s (i:Int)=some o∧mkF s (r.drop i)=match o with
   | .inl v=>(v,0)
   | .inr z=>z:=by
 intro K
 induction K with
 | zero=>
  intro i n s hK hn hs hi
  cases n with
  | zero=>omega
  | succ n=>
  rw [Zcq,if_neg (by simp; omega),List.drop_eq_nil_of_le (by omega)]
  exact⟨_,rfl,rfl⟩
 | succ K ih=>
  intro i n s hK hn hs hi
  cases n with
  | zero=>omega
  | succ n=>
  have hil:i<r.length:=by omega
  have hb:=hok _ (List.getElem_mem hil)
  have hsl:=hs.len
  rw [Zcq,if_pos (by simp; omega),Zcl hil]
  simp only [Option.bind_some]
  rw [combO (by simp; omega) hs.ok (fun x hx=>by rw [List.mem_singleton] at hx; rw [hx]; exact hb)]
  rw [List.drop_eq_getElem_cons hil]
  simp only [Option.bind_some,capB,mkF]
  by_cases h:(can oO s [r[i]]).length≤4096
  ·rw [if_pos h,if_pos h]
   simp only [bne_self_eq_false,Bool.false_eq_true,if_false]
   rw [wsucc (by omega)]
   exact ih (i + 1) n _ (by omega) (by omega) (VS.of (Zjn oO s [r[i]]).cf h) (by omega)
  ·rw [if_neg h,if_neg h]
   exact⟨_,rfl,rfl⟩
theorem VS.nil:VS []:=⟨by simp,fun _ h=>(by cases h),CFb.nil⟩
theorem Zt9 {l:List Bx} (hl:l.length≤1000000) (hin:∀ x∈l,BIn x):Zef l=some (mk l):=by
 unfold Zef
 rw [Zo5 (by omega)]
 simp only [Option.bind_some]
 have hfl:=List.length_filter_le vB l
 obtain⟨o,e,g⟩:=Zu4 (l.filter vB) (by omega) (fun x hx=>by
  obtain⟨h1,h2⟩:=List.mem_filter.1 hx
  exact vB_ok (hin x h1) h2) _ 0 fuel [] rfl (by unfold fuel; omega) VS.nil (by omega)
 rw [show ((0:Nat):Int)=0 from rfl] at e
 rw [e]
 rw [List.drop_zero] at g
 unfold mk
 rw [g]
 cases o <;> rfl
noncomputable def vSb (l:List Bx):Bool:=@decide (VS l) (Classical.propDecidable _)
theorem Zr2 {l:List Bx}:vSb l=true ↔ VS l:=by unfold vSb; exact @decide_eq_true_iff _ (Classical.propDecidable _)
theorem Zu5 {r:Bool} {p:Prop} {q:Bool} (h1:r=true ↔ p) (h2:q=true ↔ p):r=q:=by
 rw [Bool.eq_iff_iff,h1,h2]
theorem pVal {l:List Bx} (hl:l.length≤300000) (hin:∀ x∈l,BIn x):Zdn l=some (vSb l):=by
 obtain⟨r,e,g⟩:=Zta (by omega) hin
 rw [e,Zu5 g Zr2]
noncomputable def st (l:List Bx):List Bx × Int:=if vSb l=true then (l,0) else mk l
theorem Zr3 (a b:List Bx) (p:List Int):mem (a++b) p=(mem a p || mem b p):=by unfold mem; rw [List.map_append,mS_app]
structure SetOr (r:List Bx × Int):Prop where
 vs:VS r.1
 err:r.2=0∨r=([],3)
theorem mkF_ok:∀(l s:List Bx),VS s→SetOr (mkF s l)∧((mkF s l).2=0→∀ p,vP tops5 p→mem (mkF s l).1 p=(mem s p || mem l p))
 | [],s,hs=>⟨⟨hs,Or.inl rfl⟩,fun _ p _=>by rw [Zry,Bool.or_false]; rfl⟩
 | b :: l,s,hs=>by
  simp only [mkF]
  by_cases h:(can oO s [b]).length≤4096
  ·rw [if_pos h]
   have hC:=Zjn oO s [b]
   obtain⟨g1,g2⟩:=mkF_ok l (can oO s [b]) (VS.of hC.cf h)
   refine⟨g1,fun h0 p hp=>?_⟩
   rw [g2 h0 p hp,hC.mem p hp,show b :: l=[b]++l from rfl,Zr3 [b] l,oO,Bool.or_assoc]
  ·rw [if_neg h]
   exact⟨⟨VS.nil,Or.inr rfl⟩,fun h=>by cases h⟩
theorem st_ok (l:List Bx):SetOr (st l)∧((st l).2=0→∀ p,vP tops5 p→mem (st l).1 p=mem (l.filter vB) p):=by
 unfold st
 by_cases h:vSb l=true
 ·rw [if_pos h]
  have hv:=Zr2.1 h
  refine⟨⟨hv,Or.inl rfl⟩,fun _ p _=>?_⟩
  rw [List.filter_eq_self.2 fun x hx=>ok_vB (hv.ok x hx)]
 ·rw [if_neg h]
  obtain⟨g1,g2⟩:=mkF_ok (l.filter vB) [] VS.nil
  exact⟨g1,fun h0 p hp=>by unfold mk; rw [g2 h0 p hp,Zry,Bool.false_or]⟩
theorem SetOr.three {r:List Bx × Int} (h:SetOr r) (hr:r.2 ≠ 0):r=([],3):=h.err.resolve_left hr
end Go.AM
set_option maxRecDepth 100000
namespace Go.AM
open Go
def wd (r:Zb):Int:=r.Hi - r.Lo + 1
def vol:RL→Int
 | []=>1
 | r :: b=>wd r * vol b
def V:List RL→Int
 | []=>0
 | b :: l=>vol b + V l
def bel:RL→List Int→Int
 | r :: b,x :: h=>(if r.Lo<x then vol b * min (x - r.Lo) (wd r) else 0) + (if inR x r=true then bel b h else 0)
 | _,_=>0
def R:List RL→List Int→Int
 | [],_=>0
 | b :: l,h=>bel b h + R l h
theorem V_app (a b:List RL):V (a++b)=V a + V b:=by
 induction a with
 | nil=>simp [V]
 | cons x a ih=>simp only [List.cons_append,V,ih]; omega
theorem R_app (a b:List RL) (h:List Int):R (a++b) h=R a h + R b h:=by
 induction a with
 | nil=>simp [R]
 | cons x a ih=>simp only [List.cons_append,R,ih]; omega
theorem V_map (r:Zb) (l:List RL):V (l.map (r :: ·))=wd r * V l:=by
 induction l with
 | nil=>simp [V]
 | cons x a ih=>simp only [List.map_cons,V,ih,vol,Int.mul_add]
theorem R_map (r:Zb) (l:List RL) (x:Int) (h:List Int):R (l.map (r :: ·)) (x :: h)=(if r.Lo<x then V l * min (x - r.Lo) (wd r) else 0) + (if inR x r=true then R l h else 0):=by
 induction l with
 | nil=>simp [R,V]
 | cons b a ih=>
  simp only [List.map_cons,R,ih,bel,V,Int.add_mul]
  split <;> split <;> omega
def sm (f:Nat→Int):Nat→Int
 | 0=>0
 | n + 1=>sm f n + f n
theorem Zqu {f g:Nat→Int}:∀ {n:Nat},(∀ i,i<n→f i=g i)→sm f n=sm g n
 | 0,_=>rfl
 | n + 1,h=>by rw [sm,sm,h n (by omega),Zqu fun i hi=>h i (by omega)]
theorem sm_add (f g:Nat→Int):∀ n,sm (fun i=>f i + g i) n=sm f n + sm g n
 | 0=>rfl
 | n + 1=>by rw [sm,sm,sm,sm_add f g n]; omega
theorem Zr4:∀ n,sm (fun _=>0) n=0
 | 0=>rfl
 | n + 1=>by rw [sm,Zr4 n]; rfl
theorem Zkz {f:Nat→Int}:∀ {n:Nat},(∀ i,i<n→0≤f i)→0≤sm f n
 | 0,_=>by rw [sm]; omega
 | n + 1,h=>by
  have:=Zkz (n:=n) fun i hi=>h i (by omega)
  have:=h n (by omega)
  rw [sm]; omega
theorem Zr5 {f:Nat→Int} (h:∀ i,0≤f i) {m n:Nat} (hmn:m≤n):sm f m≤sm f n:=by
 induction n with
 | zero=>rw [show m=0 by omega]; omega
 | succ n ih=>
  by_cases e:m=n + 1
  ·rw [e]; omega
  ·have:=ih (by omega)
   have:=h n
   rw [sm]; omega
theorem sm_ind (k:Int) {r:Zb} (h0:0≤r.Lo) (h1:r.Lo≤r.Hi):∀ n:Nat,sm (fun v=>if inR (v:Int) r=true then k else 0) n=if r.Lo<n then k * min ((n:Int) - r.Lo) (wd r) else 0
 | 0=>by rw [sm,if_neg (by omega)]
 | n + 1=>by
  rw [sm,sm_ind k h0 h1 n]
  simp only [Zdd]
  unfold wd
  by_cases a:r.Lo<n
  ·rw [if_pos a,if_pos (show r.Lo<((n + 1:Nat):Int) by omega)]
   by_cases b:(n:Int)≤r.Hi
   ·rw [if_pos ⟨by omega,b⟩,Int.min_eq_left (by omega),Int.min_eq_left (by omega),show ((n + 1:Nat):Int) - r.Lo=((n:Int) - r.Lo) + 1 by omega,Int.mul_add,Int.mul_one]
   ·rw [if_neg (by omega),Int.min_eq_right (by omega),Int.min_eq_right (by omega),Int.add_zero]
  ·rw [if_neg a]
   by_cases b:(n:Int)=r.Lo
   ·rw [if_pos (by omega),if_pos (by omega),Int.min_eq_left (by omega),show ((n + 1:Nat):Int) - r.Lo=1 by omega,Int.mul_one,Int.zero_add]
   ·rw [if_neg (by omega),if_neg (by omega)]; rfl
theorem Ztc (x:Cell) (c:List Cell) (v:Int):V (lk (x :: c) v)=(if inR v x.1=true then V x.2 else 0) + V (lk c v):=by
 rw [Zet,V_app]
 split <;> rfl
theorem Ztd (x:Cell) (c:List Cell) (v:Int) (h:List Int):R (lk (x :: c) v) h=(if inR v x.1=true then R x.2 h else 0) + R (lk c v) h:=by
 rw [Zet,R_app]
 split <;> rfl
def A (c:List Cell) (n:Nat):Int:=sm (fun v=>V (lk c (v:Int))) n
theorem A_nil (n:Nat):A [] n=0:=by unfold A; rw [← Zr4 n]; rfl
theorem A_cons {x:Cell} (c:List Cell) (h0:0≤x.1.Lo) (h1:x.1.Lo≤x.1.Hi) (n:Nat):A (x :: c) n=(if x.1.Lo<n then V x.2 * min ((n:Int) - x.1.Lo) (wd x.1) else 0) + A c n:=by
 unfold A
 rw [← sm_ind (V x.2) h0 h1 n,← sm_add]
 exact Zqu fun i _=>Ztc x c i
theorem V_flt {t:Int}:∀ {c:List Cell},(∀ x∈c,0≤x.1.Lo∧x.1.Lo≤x.1.Hi∧x.1.Hi≤t)→∀ {n:Nat},t<n→V (flt c)=A c n
 | [],_,n,_=>by rw [A_nil]; rfl
 | x :: c,h,n,hn=>by
  have hx:=h x (List.mem_cons_self ..)
  rw [Zc8,V_app,V_map,A_cons c hx.1 hx.2.1,V_flt (fun y hy=>h y (List.mem_cons_of_mem _ hy)) hn,if_pos (by omega),Int.min_eq_right (by unfold wd; omega),Int.mul_comm]
theorem R_flt {t:Int}:∀ {c:List Cell},(∀ x∈c,0≤x.1.Lo∧x.1.Lo≤x.1.Hi∧x.1.Hi≤t)→∀(n:Nat) (h:List Int),R (flt c) ((n:Int) :: h)=A c n + R (lk c n) h
 | [],_,n,h=>by rw [A_nil]; rfl
 | x :: c,hc,n,h=>by
  have hx:=hc x (List.mem_cons_self ..)
  rw [Zc8,R_app,R_map,A_cons c hx.1 hx.2.1,R_flt (fun y hy=>hc y (List.mem_cons_of_mem _ hy)) n h,Ztd]
  omega
structure Cl (t:Int) (ts:List Int) (l:List RL) (g:Nat→List RL):Prop where
 cf:∀ n,CF ts (g n)
 ms:∀(n:Nat) p,mS l ((n:Int) :: p)=mS (g n) p
 v:∀ {n:Nat},t<n→V l=sm (fun i=>V (g i)) n
 r:∀(n:Nat) h,R l ((n:Int) :: h)=sm (fun i=>V (g i)) n + R (g n) h
theorem CF.cl {t:Int} {ts:List Int} {l:List RL} (h:CF (t :: ts) l):∃ g,Cl t ts l g:=by
 obtain⟨c,rfl,ho,hc⟩:=h
 have hb:∀ x∈c,0≤x.1.Lo∧x.1.Lo≤x.1.Hi∧x.1.Hi≤t:=fun x hx=>⟨(ho.ok x hx).1,(ho.ok x hx).2.1,(ho.ok x hx).2.2.1⟩
 exact⟨fun n=>lk c n,fun n=>CF_lk ho hc _,fun n p=>by rw [Zfh,Zgp],fun hn=>V_flt hb hn,fun n h=>R_flt hb n h⟩
theorem V_zero {l:List RL} (h:CF [] l):V l=if mS l []=true then 1 else 0:=by
 rcases h with rfl | rfl <;> rfl
theorem Zte {l:List RL} (h:CF [] l):R l []=0:=by
 rcases h with rfl | rfl <;> rfl
theorem Zig:∀(ts:List Int) {l:List RL},(∀ t∈ts,0≤t)→CF ts l→0≤V l
 | [],l,_,h=>by rw [V_zero h]; split <;> omega
 | t :: ts,l,h0,h=>by
  obtain⟨g,hg⟩:=h.cl
  have ht:=h0 t (List.mem_cons_self ..)
  rw [hg.v (n:=(t + 1).toNat) (by omega)]
  exact Zkz fun i _=>Zig ts (fun x hx=>h0 x (List.mem_cons_of_mem _ hx)) (hg.cf i)
def b1 (b:Bool):Int:=if b=true then 1 else 0
theorem b1_01 (b:Bool):0≤b1 b∧b1 b≤1:=by cases b <;> decide
theorem Zk8:∀(ts:List Int) {l:List RL} {p:List Int},(∀ t∈ts,0≤t)→CF ts l→vP ts p→0≤R l p∧R l p + b1 (mS l p)≤V l
 | [],l,[],_,h,_=>by
  rw [V_zero h,Zte h]
  exact⟨by omega,by unfold b1; omega⟩
 | [],_,_ :: _,_,_,h=>h.elim
 | _ :: _,_,[],_,_,h=>h.elim
 | t :: ts,l,x :: p,h0,h,hp=>by
  obtain⟨g,hg⟩:=h.cl
  obtain⟨p0,p1,p2⟩:=hp
  have h0':∀ t∈ts,0≤t:=fun x hx=>h0 x (List.mem_cons_of_mem _ hx)
  obtain⟨n,rfl⟩:∃ n:Nat,x=n:=⟨x.toNat,by omega⟩
  obtain⟨i1,i2⟩:=Zk8 ts h0' (hg.cf n) p2
  have nn:∀ i,0≤V (g i):=fun i=>Zig ts h0' (hg.cf i)
  have m:=Zr5 nn (show n + 1≤(t + 1).toNat by omega)
  have m0:0≤sm (fun i=>V (g i)) n:=Zkz fun i _=>nn i
  rw [hg.r,hg.ms,hg.v (n:=(t + 1).toNat) (by omega)]
  rw [sm] at m
  omega
def ltL:List Int→List Int→Prop
 | x :: g,y :: h=>x<y∨(x=y∧ltL g h)
 | _,_=>False
theorem Zoh:∀(ts:List Int) {l:List RL} {p q:List Int},(∀ t∈ts,0≤t)→CF ts l→vP ts p→vP ts q→ltL p q→R l p + b1 (mS l p)≤R l q
 | [],_,[],[],_,_,_,_,h=>h.elim
 | [],_,_ :: _,_,_,_,h,_,_=>h.elim
 | [],_,[],_ :: _,_,_,_,h,_=>h.elim
 | _ :: _,_,[],_,_,_,h,_,_=>h.elim
 | _ :: _,_,_ :: _,[],_,_,_,h,_=>h.elim
 | t :: ts,l,x :: p,y :: q,h0,h,hp,hq,hlt=>by
  obtain⟨g,hg⟩:=h.cl
  obtain⟨p0,p1,p2⟩:=hp
  obtain⟨q0,q1,q2⟩:=hq
  have h0':∀ t∈ts,0≤t:=fun x hx=>h0 x (List.mem_cons_of_mem _ hx)
  obtain⟨n,rfl⟩:∃ n:Nat,x=n:=⟨x.toNat,by omega⟩
  obtain⟨m,rfl⟩:∃ m:Nat,y=m:=⟨y.toNat,by omega⟩
  rw [hg.r,hg.r,hg.ms]
  rcases hlt with h1 | ⟨h1,h2⟩
  ·have nn:∀ i,0≤V (g i):=fun i=>Zig ts h0' (hg.cf i)
   have mm:=Zr5 nn (show n + 1≤m by omega)
   have i1:=(Zk8 ts h0' (hg.cf n) p2).2
   have i2:=(Zk8 ts h0' (hg.cf m) q2).1
   rw [sm] at mm
   omega
  ·have e:n=m:=by omega
   subst e
   have:=Zoh ts h0' (hg.cf n) p2 q2 h2
   omega
end Go.AM
set_option maxRecDepth 100000
namespace Go.AM
open Go
theorem M_fuel:∃ f,fuel=f + 4:=⟨1180591620717411303420,rfl⟩
instance:DecidableEq Zh:=fun a b=>decidable_of_iff (a.Hi=b.Hi∧a.Lo=b.Lo) (by cases a; cases b; simp)
def cmp3 (x y:Int):Int:=if x<y then -1 else if x > y then 1 else 0
theorem Zre {x y:Int} (h:y≤x):decide (cmp3 x y<0)=false:=by
 unfold cmp3
 rw [if_neg (by omega)]
 split <;> decide
theorem Znx {n:Int} (h1:-9223372036854775808≤n) (h2:n<9223372036854775808):IntKind.wrap .i64 n=n:=by
 simp only [IntKind.wrap,IntKind.bits,IntKind.signed]
 simp
 omega
theorem M_cmp (a b:Int):Zcu a b=some (if a<b then -1 else if a > b then 1 else 0):=by
 simp only [Zcu,Zcg,Option.bind_some,bne_self_eq_false,Bool.false_eq_true,if_false,decide_eq_true_eq]
 split
 ·rfl
 ·split <;> rfl
theorem M_or (x y:Int):Zfp [x,y]=some (if x ≠ 0 then x else y):=by
 obtain⟨f,hf⟩:=M_fuel
 simp only [Zfp,hf]
 have w1:IntKind.wrap .i64 1=1:=Znx (by omega) (by omega)
 have w2:IntKind.wrap .i64 2=2:=Znx (by omega) (by omega)
 by_cases hx:x=0
 ·subst hx
  by_cases hy:y=0
  ·subst hy
   simp [Zdj,idx,w1,w2]
  ·simp [Zdj,idx,w1,w2,hy]
 ·simp [Zdj,idx,hx]
def cnum (c:Zh):Int:=c.Hi * 18446744073709551616 + c.Lo
theorem Zhw {a b:Zh} (ha:Zdw a) (hb:Zdw b):Zch a b=some (cmp3 (cnum a) (cnum b)):=by
 simp only [Zch,M_cmp,M_or,Option.bind_some]
 obtain⟨h1,h2,_⟩:=ha
 obtain⟨h3,h4,_⟩:=hb
 unfold Zff at h1 h2 h3 h4
 unfold cmp3 cnum
 congr 1
 rcases Int.lt_trichotomy a.Hi b.Hi with h | h | h
 ·have k:a.Hi * 18446744073709551616 + a.Lo<b.Hi * 18446744073709551616 + b.Lo:=by omega
  simp [h,k]
 ·rw [h]
  rcases Int.lt_trichotomy a.Lo b.Lo with k | k | k
  ·simp [k]
  ·simp [k]
  ·have k1:¬ a.Lo<b.Lo:=by omega
   simp [k,k1]
 ·have n1:¬ a.Hi<b.Hi:=by omega
  have k:¬ a.Hi * 18446744073709551616 + a.Lo<b.Hi * 18446744073709551616 + b.Lo:=by omega
  have k':a.Hi * 18446744073709551616 + a.Lo > b.Hi * 18446744073709551616 + b.Lo:=by omega
  simp [h,n1,k,k']
end Go.AM
set_option maxRecDepth 100000
namespace Go.AM
open Go
theorem bindC {α β:Type} {x:Option α} {a:α} (h:x=some a) (f:α→Option β):x.bind f=f a:=by rw [h]; rfl
def cN (n:Int):Zh:=⟨n / 18446744073709551616,n % 18446744073709551616⟩
theorem cN_ok {n:Int} (h0:0≤n) (h1:n<340282366920938463463374607431768211456):Zdw (cN n):=by
 unfold cN
 refine⟨?_,?_,trivial⟩ <;> simp only [Zff] <;> omega
theorem cN_num (n:Int):cnum (cN n)=n:=by unfold cnum cN; simp only; omega
theorem cN_of {c:Zh} (h:Zdw c):c=cN (cnum c):=by
 obtain⟨a,b⟩:=c
 obtain⟨h1,h2,_⟩:=h
 unfold Zff at h1 h2
 unfold cN cnum
 simp only [Zh.mk.injEq] at *
 omega
theorem Zu6 {c:Zh} (h:Zdw c):0≤cnum c∧cnum c<340282366920938463463374607431768211456:=by
 obtain⟨a,b⟩:=c
 obtain⟨h1,h2,_⟩:=h
 unfold Zff at h1 h2
 unfold cnum
 simp only at *
 omega
theorem Zvd (a b:Zh):Zie a b=decide (a=b):=by
 obtain⟨a1,a2⟩:=a
 obtain⟨b1,b2⟩:=b
 rw [Bool.eq_iff_iff]
 simp [Zie]
theorem Zoi {a b:Int} (ha:0≤a) (hb:0≤b) (h:a + b<340282366920938463463374607431768211456):Zda (cN a) (cN b)=some (cN (a + b)):=by
 unfold Zda cN
 simp only
 rw [if_pos (by omega),if_pos (by omega)]
 congr 2 <;> omega
theorem shr32 (a:Nat):bShr .u64 (a:Int) (32:Int)=((a / 4294967296:Nat):Int):=Zjk a 32 (by omega)
theorem mask32 (a:Nat) (ha:a<18446744073709551616):bAnd .u64 (a:Int) (4294967295:Int)=((a % 4294967296:Nat):Int):=by
 have h:=Zqg (x:=a) (y:=4294967295) ha (by omega)
 have e:a &&& 4294967295=a % 4294967296:=Nat.and_two_pow_sub_one_eq_mod a 32
 rw [e] at h
 exact h
theorem mulN (a b:Nat):(a:Int) * (b:Int)=((a * b:Nat):Int):=(Int.natCast_mul a b).symm
theorem addN (a b:Nat):(a:Int) + (b:Int)=((a + b:Nat):Int):=(Int.natCast_add a b).symm
theorem wrapN (a:Nat) (ha:a<18446744073709551616):IntKind.wrap .u64 (a:Int)=(a:Int):=wu64 (by omega) (by omega)
theorem wrapM (a:Nat):IntKind.wrap .u64 (a:Int)=((a % 18446744073709551616:Nat):Int):=by
 rw [wrap_u .u64 64 rfl rfl]; omega
theorem Zqv (x y:Nat) (hx:x<18446744073709551616) (hy:y<18446744073709551616):Zdo (x:Int) (y:Int)=some (((x * y / 18446744073709551616:Nat):Int),((x * y % 18446744073709551616:Nat):Int)):=by
 obtain⟨bd,bt,bw,hhi⟩:=Lib.mul64_hi x y hx hy
 have ba:=Lib.half_mul_le (a:=x / 4294967296) (b:=y / 4294967296) (by omega) (by omega)
 have bb:=Lib.half_mul_le (a:=x / 4294967296) (b:=y % 4294967296) (by omega) (by omega)
 have bc:=Lib.half_mul_le (a:=x % 4294967296) (b:=y / 4294967296) (by omega) (by omega)
 have ba':x / 4294967296 * (y / 4294967296)<18446744073709551616:=by omega
 have bb':x / 4294967296 * (y % 4294967296)<18446744073709551616:=by omega
 have bc':x % 4294967296 * (y / 4294967296)<18446744073709551616:=by omega
 have bh1:x / 4294967296 * (y / 4294967296) + (x / 4294967296 * (y % 4294967296) + x % 4294967296 * (y % 4294967296) / 4294967296) / 4294967296<18446744073709551616:=by omega
 have bh:x / 4294967296 * (y / 4294967296) + (x / 4294967296 * (y % 4294967296) + x % 4294967296 * (y % 4294967296) / 4294967296) / 4294967296 + ((x / 4294967296 * (y % 4294967296) + x % 4294967296 * (y % 4294967296) / 4294967296) % 4294967296 + x % 4294967296 * (y / 4294967296)) / 4294967296<18446744073709551616:=by omega
 unfold Zdo
 simp only [mask32 x hx,mask32 y hy,shr32,mulN,addN,wrapN _ bd,wrapN _ bb',wrapN _ bt,mask32 _ bt,wrapN _ bc',wrapN _ bw,wrapN _ ba',wrapN _ bh1,wrapN _ bh,wrapM (x * y)]
 rw [hhi]
theorem Zih {a n:Int} (ha:0≤a) (hn:0≤n) (hn1:n<18446744073709551616) (h:a * n<340282366920938463463374607431768211456) (ha1:a<340282366920938463463374607431768211456):∃ b,Zb6 (cN a) n=some (cN (a * n),b):=by
 obtain⟨a,rfl⟩:∃ m:Nat,a=m:=⟨a.toNat,by omega⟩
 obtain⟨n,rfl⟩:∃ m:Nat,n=m:=⟨n.toNat,by omega⟩
 have e:a * n=(a / 18446744073709551616 * n) * 18446744073709551616 + (a % 18446744073709551616) * n:=by
  have h1:a=a / 18446744073709551616 * 18446744073709551616 + a % 18446744073709551616:=by omega
  have h2:a * n=(a / 18446744073709551616 * 18446744073709551616 + a % 18446744073709551616) * n:=by rw [← h1]
  rw [h2,Nat.add_mul,Nat.mul_right_comm]
 rw [mulN] at h ⊢
 unfold Zb6
 have e1:(cN (a:Int)).Lo=((a % 18446744073709551616:Nat):Int):=rfl
 have e2:(cN (a:Int)).Hi=((a / 18446744073709551616:Nat):Int):=rfl
 rw [e1,e2,Zqv _ _ (by omega) (by omega),Zqv _ _ (by omega) (by omega)]
 simp only [Option.bind_some]
 rw [if_pos (by omega)]
 refine⟨_,congrArg (fun c=>some (c,_)) (?_:_=cN _)⟩
 unfold cN
 simp only [Zh.mk.injEq]
 rw [e] at h ⊢
 generalize a / 18446744073709551616 * n=P at *
 generalize a % 18446744073709551616 * n=Q at *
 omega
theorem Zk0 {t:Int} {r:Zb} (h:ROk t r) (ht:t<4294967296):Zcc r=some (wd r):=by
 have:=h.h0
 have:=h.h1
 have:=h.h2
 unfold Zcc wd
 rw [wu64 (x:=r.Hi) (by omega) (by omega),wu64 (x:=r.Lo) (by omega) (by omega),wu64 (x:=r.Hi - r.Lo) (by omega) (by omega),wu64 (by omega) (by omega)]
def prodT:List Int→Int
 | []=>1
 | t :: ts=>(t + 1) * prodT ts
theorem Zf7:∀(ts:List Int) {b:RL},vR ts b→1≤vol b∧vol b≤prodT ts
 | [],[],_=>by unfold vol prodT; omega
 | [],_ :: _,h=>h.elim
 | _ :: _,[],h=>h.elim
 | t :: ts,r :: b,⟨h0,h1,h2,h3⟩=>by
  obtain⟨i1,i2⟩:=Zf7 ts h3
  unfold vol prodT
  have hw:1≤wd r∧wd r≤t + 1:=by unfold wd; omega
  have a1:=Int.mul_le_mul hw.1 i1 (by omega) (by omega)
  have a2:=Int.mul_le_mul hw.2 i2 (by omega) (by omega)
  omega
theorem V_le:∀(ts:List Int) {l:List RL},(∀ t∈ts,0≤t)→CF ts l→V l≤prodT ts
 | [],l,_,h=>by rw [V_zero h]; unfold prodT; split <;> omega
 | t :: ts,l,h0,h=>by
  obtain⟨g,hg⟩:=h.cl
  have ht:=h0 t (List.mem_cons_self ..)
  have h0':∀ x∈ts,0≤x:=fun x hx=>h0 x (List.mem_cons_of_mem _ hx)
  rw [hg.v (n:=(t + 1).toNat) (by omega)]
  have key:∀ n:Nat,sm (fun i=>V (g i)) n≤n * prodT ts:=by
   intro n
   induction n with
   | zero=>rw [sm]; simp
   | succ n ih=>
    have:=V_le ts h0' (hg.cf n)
    rw [sm,show ((n + 1:Nat):Int)=(n:Int) + 1 from rfl,Int.add_mul]
    omega
  have:=key (t + 1).toNat
  rw [show (((t + 1).toNat:Nat):Int)=t + 1 by omega] at this
  exact this
theorem prodT5:prodT tops5=20282409603651670423947251286016:=by decide
theorem sf_vR {b:Bx} (h:BOk b):∀ {f:Nat},f≤5→vR (tops5.drop f) (sf f b):=by
 have key:∀(f:Nat) (ts:List Int) (l:RL),vR ts l→vR (ts.drop f) (l.drop f):=by
  intro f
  induction f with
  | zero=>exact fun ts l h=>h
  | succ f ih=>
   intro ts l h
   cases ts with
   | nil=>cases l with
    | nil=>exact h
    | cons _ _=>exact h.elim
   | cons t ts=>cases l with
    | nil=>exact h.elim
    | cons r l=>exact ih ts l h.2.2.2
 intro f _
 exact key f tops5 (toL b) (ok_vR h)
theorem Zjo:∀(f:Nat),f≤5→prodT (tops5.drop f)≤20282409603651670423947251286016:=by
 intro f hf
 rcases (show f=0∨f=1∨f=2∨f=3∨f=4∨f=5 by omega) with rfl | rfl | rfl | rfl | rfl | rfl <;> decide
theorem Zmw (f:Nat):∀ t∈tops5.drop f,0≤t:=fun t ht=>Zgm t (List.mem_of_mem_drop ht)
theorem getR {b:Bx} (h:BOk b) {f:Nat} (hf:f<5):ROk (topOf (f:Int)) (b.get (f:Int))∧topOf (f:Int)<4294967296:=by
 rcases fiveN hf with rfl | rfl | rfl | rfl | rfl
 ·exact⟨h.h0,by decide⟩
 ·exact⟨h.h1,by decide⟩
 ·exact⟨h.h2,by decide⟩
 ·exact⟨h.h3,by decide⟩
 ·exact⟨h.h4,by decide⟩
theorem Zqw {b:Bx} (h:BOk b) {f:Nat} (hf:f≤5):∀(j i n:Nat) (c:Int),f + i + j=5→j<n→1≤c→c * vol (sf (f + i) b)<340282366920938463463374607431768211456→Zco b (f:Int) n (cN c) (i:Int)=some (cN (c * vol (sf (f + i) b)))
 | 0,i,n + 1,c,e,_,hc,hb=>by
  rw [Zco,if_neg (by simp; omega)]
  have:sf (f + i) b=[]:=List.eq_nil_of_length_eq_zero (by rw [sf_len (by omega)]; omega)
  rw [this]
  show _=some (cN (c * 1))
  rw [Int.mul_one]
 | j + 1,i,n + 1,c,e,hn,hc,hb=>by
  have hfi:f + i<5:=by omega
  have hv:=(Zf7 _ (sf_vR h (f:=f + i + 1) (by omega))).1
  obtain⟨hr,ht⟩:=getR h hfi
  have hw:1≤wd (b.get ((f + i:Nat):Int))∧wd (b.get ((f + i:Nat):Int))≤4294967296:=by
   have:=hr.h0; have:=hr.h1; have:=hr.h2
   unfold wd; omega
  rw [Zh8 hfi b] at hb ⊢
  rw [vol,← Int.mul_assoc] at hb ⊢
  have h1:c * wd (b.get ((f + i:Nat):Int))≤c * wd (b.get ((f + i:Nat):Int)) * vol (sf (f + i + 1) b):=by
   have p:0≤c * wd (b.get ((f + i:Nat):Int)):=Int.mul_nonneg (by omega) (by omega)
   have:=Int.mul_le_mul_of_nonneg_left hv p
   rw [Int.mul_one] at this
   exact this
  have h2:c≤c * wd (b.get ((f + i:Nat):Int)):=by
   have:=Int.mul_le_mul_of_nonneg_left hw.1 (show 0≤c by omega)
   rw [Int.mul_one] at this
   exact this
  obtain⟨k,hk⟩:=Zih (a:=c) (n:=wd (b.get ((f + i:Nat):Int))) (by omega) (by omega) (by omega) (by omega) (by omega)
  rw [Zco,if_pos (by simp; omega),if_pos (by simp; omega),if_pos (by omega),show (f:Int) + (i:Int)=((f + i:Nat):Int) from rfl,Zk0 hr ht]
  simp only [Option.bind_some,hk]
  rw [wsucc (by omega)]
  exact Zqw h hf j (i + 1) n _ (by omega) (by omega) (by omega) hb
theorem Zo9 {b:Bx} (h:BOk b) {f:Nat} (hf:f≤5):Zcx b (f:Int)=some (cN (vol (sf f b))):=by
 unfold Zcx
 have hv:=Zf7 _ (sf_vR h hf)
 have hp:=Zjo f hf
 rw [show Ze9 1=some (cN 1) from rfl]
 simp only [Option.bind_some]
 rw [if_pos (by omega)]
 have:=Zqw h hf (5 - f) 0 fuel 1 (by omega) (by unfold fuel; omega) (by omega) (by rw [Int.one_mul]; simp only [Nat.add_zero]; omega)
 rw [Int.one_mul] at this
 rw [show (0:Int)=((0:Nat):Int) from rfl,this]
 rfl
theorem Zr6 {l:List Bx} (hl:l.length≤1000000) (hok:∀ b∈l,BOk b) {f:Nat} (hf:f≤5):∀(j i n:Nat) (c:Int),l.length - i=j→i≤l.length→j<n→0≤c→c + V ((l.drop i).map (sf f))<340282366920938463463374607431768211456→Zcb l (f:Int) n (cN c) (i:Int)=some (cN (c + V ((l.drop i).map (sf f))))
 | 0,i,n + 1,c,e,hi,_,hc,hb=>by
  rw [Zcb,if_neg (by simp; omega),List.drop_eq_nil_of_le (by omega)]
  show _=some (cN (c + 0))
  rw [Int.add_zero]
 | j + 1,i,n + 1,c,e,hi,hn,hc,hb=>by
  have hi':i<l.length:=by omega
  rw [List.drop_eq_getElem_cons hi',List.map_cons,V] at hb ⊢
  have hx:=hok _ (List.getElem_mem hi')
  have hv:=Zf7 _ (sf_vR hx hf)
  have hV:0≤V ((l.drop (i + 1)).map (sf f)):=by
   have:∀(m:List Bx),(∀ b∈m,BOk b)→0≤V (m.map (sf f)):=by
    intro m
    induction m with
    | nil=>intro _; show (0:Int)≤0; omega
    | cons x m ih=>
     intro hm
     have:=ih fun y hy=>hm y (List.mem_cons_of_mem _ hy)
     have:=Zf7 _ (sf_vR (hm x (List.mem_cons_self ..)) hf)
     rw [List.map_cons,V]; omega
   exact this _ fun b hb=>hok b (List.mem_of_mem_drop hb)
  rw [Zcb,if_pos (by simp; omega),Zcl hi']
  simp only [Option.bind_some,Zo9 hx hf]
  rw [Zoi hc (by omega) (by omega)]
  simp only [Option.bind_some]
  rw [wsucc (by omega),Zr6 hl hok hf j (i + 1) n _ (by omega) (by omega) (by omega) (by omega) (by omega),Int.add_assoc]
theorem Zjp {l:List Bx} (hl:l.length≤1000000) (hok:∀ b∈l,BOk b) {f:Nat} (hf:f≤5) (hb:V (l.map (sf f))<340282366920938463463374607431768211456):Zbr l (f:Int)=some (cN (V (l.map (sf f)))):=by
 unfold Zbr
 have:=Zr6 hl hok hf l.length 0 fuel 0 rfl (by omega) (by unfold fuel; omega) (by omega) (by rw [Int.zero_add]; exact hb)
 rw [Int.zero_add] at this
 have e0:Zcb l (f:Int) fuel Zo 0=_:=this
 rw [e0]
 rfl
theorem Zk9 {l:List Bx} (hl:l.length≤300000) (hin:∀ x∈l,BIn x):Zdv l=some (st l):=by
 unfold Zdv st
 rw [pVal hl hin]
 simp only [Option.bind_some]
 by_cases h:vSb l=true
 ·rw [if_pos h,if_pos h]
 ·rw [if_neg h,if_neg h,Zt9 (by omega) hin]; rfl
noncomputable def ofA (l:List Bx):Zh × Int:=if (st l).2 ≠ 0 then (⟨0,0⟩,(st l).2) else (cN (V ((st l).1.map toL)),0)
theorem V_vs {l:List Bx} (h:VS l):0≤V (l.map toL)∧V (l.map toL)≤20282409603651670423947251286016:=by
 refine⟨Zig _ Zgm h.cf,?_⟩
 have:=V_le _ Zgm h.cf
 rw [prodT5] at this
 exact this
theorem Of_eq {l:List Bx} (hl:l.length≤300000) (hin:∀ x∈l,BIn x):Zfg l=some (ofA l):=by
 unfold Zfg ofA
 rw [Zk9 hl hin]
 simp only [Option.bind_some]
 by_cases h:(st l).2=0
 ·have hv:=(st_ok l).1.vs
  have hV:=V_vs hv
  have e:(st l).1.map (sf 0)=(st l).1.map toL:=rfl
  rw [if_neg (by simp [h]),if_neg (by simp [h]),show (0:Int)=((0:Nat):Int) from rfl,Zjp (by have:=hv.len; omega) hv.ok (by omega) (by rw [e]; omega)]
  rfl
 ·rw [if_pos (by simpa using h),if_pos (by simpa using h)]
end Go.AM
set_option maxRecDepth 100000
namespace Go.AM
open Go
end Go.AM
set_option maxRecDepth 100000
namespace Go.AM
open Go
structure InL (l:List Bx):Prop where
 len:l.length≤300000
 bin:∀ x∈l,BIn x
theorem InL.one {b:Bx} (h:BIn b):InL [b]:=⟨by simp,fun x hx=>by rw [List.mem_singleton] at hx; rw [hx]; exact h⟩
abbrev ISt:=Bool × List Bx
structure ISok (s:ISt):Prop where
 vs:VS s.2
 e:s.1=true→s.2=[]
end Go.AM
set_option maxRecDepth 100000
namespace Go.AM
open Go
theorem Zu7 (b:Bx) (p:List Int):mem [b] p=mB (toL b) p:=by unfold mem mS; simp
end Go.AM
set_option maxRecDepth 100000
namespace Go.AM
open Go
abbrev QSt:=Bool × List Bx × List Bx
structure QOk (s:QSt):Prop where
 o:VS s.2.1
 r:VS s.2.2
end Go.AM
set_option maxRecDepth 100000
namespace Go.AM
open Go
theorem Ztf {t:Zf} (ht:TOk t):Ok (Zdk t) fun r=>Za1 r.1∧TOk r.2:=by
 unfold Zdk
 refine Ok.bind (Zja ht) fun r1 ⟨a1,h1⟩=>Ok.bind (Zja h1) fun r3 ⟨a3,h3⟩=>?_
 refine Ok.bind (Zc1 h3 6 (by omega) (by omega)) fun r5 ⟨⟨c0,c1⟩,h5⟩=>?_
 refine Ok.bind (Ok.idx (p:=fun x=>0≤x∧x<256) c0 (by simpa using c1) fun x hx=>?_) fun x7 hx7=>?_
 ·simp only [List.mem_cons,List.not_mem_nil,or_false] at hx
  omega
 refine Ok.bind (Ziv h5 (by omega) (by omega)) fun r9 ⟨a9,h9⟩=>Ok.bind (Ziv h9 (by omega) (by omega)) fun r11 ⟨a11,h11⟩=>Ok.ret ⟨?_,h11⟩
 have g9:=Znn r9.1
 have g11:=Znn r11.1
 refine⟨?_,?_,?_,?_,?_,trivial⟩ <;> simp only [Zi4,Zib,ok_u8] <;> omega
theorem Zqx (v:Arr5 Int) (x:Int) {k:Int} (h0:0≤k) (h1:k<5):(v.set k x).get k=x:=by
 rcases five h0 h1 with rfl | rfl | rfl | rfl | rfl <;> rfl
theorem Zqy (v:Arr5 Int) (x y:Int) {k:Int} (h0:0≤k) (h1:k<5):(v.set k x).set k y=v.set k y:=by
 rcases five h0 h1 with rfl | rfl | rfl | rfl | rfl <;> rfl
theorem z_ok:VOk Zgh:=⟨by decide,by decide,by decide,by decide,by decide⟩
theorem Zu8 {t:Zf} (ht:TOk t) {l:List (Arr5 Zb)} (hl:∀ b∈l,BIn b) (hn:l.length≤1000000):Ok (Zdx t l) fun r=>Za1 r.1∧TOk r.2:=by
 unfold Zdx
 refine Ok.lift ?_
 refine Ok.bind (p:=fun v=>TOk v.2∧(v.1=false→0<l.length)) ?_ fun v ⟨hv,hp⟩=>?_
 ·refine Ok.ite (fun _=>Ok.ret ⟨ht,fun h=>by cases h⟩) fun hc=>?_
  exact Ok.bind (Zc1 ht 4 (by omega) (by omega)) fun r ⟨_,h4⟩=>Ok.ret ⟨h4,fun _=>by
   rcases l with _ | ⟨a,l⟩
   ·exact absurd rfl hc
   ·simp⟩
 refine Ok.ite (fun _=>Ok.bind (Ztf hv) fun r h=>Ok.ret h) fun hc=>?_
 have hp:=hp (by simpa using hc)
 refine Ok.bind (Zc1 hv (l.length:Int) (by omega) (by omega)) fun r11 ⟨⟨a0,a1⟩,h11⟩=>?_
 refine Ok.bind (Ok.idx (p:=BIn) a0 a1 hl) fun b hb=>?_
 refine Ok.bind (p:=fun o=>TOk o.1∧VOk o.2) ?_ fun o ⟨g1,g2⟩=>?_
 ·refine Ok.mono (p:=fun(o:Zf × Arr5 Int)=>TOk o.1∧VOk o.2) ?_ fun _ h=>h
  have key:∀(s:Zf × Arr5 Int),TOk s.1∧VOk s.2→Ok ((fun n (s:Zf × Arr5 Int) k=>Zba b n s.1 s.2 k) fuel s 0) fun(o:Zf × Arr5 Int)=>TOk o.1∧VOk o.2:=fun s hs=>by
   refine Zuq (L:=fun n (s:Zf × Arr5 Int) k=>Zba b n s.1 s.2 k) (I:=fun s=>TOk s.1∧VOk s.2) (fun n s k h0 h1 ⟨e1,e2⟩ kk=>?_) (fun n s h=>?_) s hs
   ·have hk:0≤k∧k<5:=⟨h0,h1⟩
    show Ok (Zba b (n + 1) s.1 s.2 k) _
    rw [Zba,if_pos (decide_eq_true h1)]
    refine Ok.chk hk (Ok.chk hk (Ok.chk hk (Ok.chk hk (Ok.chk hk (Ok.chk hk (Ok.chk hk ?_))))))
    refine Ok.bind (Zc1 e1 5 (by omega) (by omega)) fun r81 ⟨⟨d0,d1⟩,h81⟩=>?_
    have hg:=hb.get k
    have w1:=Ze4 ((b.get k).Lo - 1)
    have w2:=Ze4 ((b.get k).Hi + 1)
    have w3:=Ze4 ((b.get k).Lo + IntKind.wrap .u32 (Int.tdiv (IntKind.wrap .u32 ((b.get k).Hi - (b.get k).Lo)) 2))
    have q0:=hg.h0
    have q1:=hg.h1
    have q2:=hg.h2
    have q3:=hg.h3
    refine Ok.bind (Ok.idx (p:=fun x=>0≤x∧x<4294967296) d0 (by simpa using d1) fun x hx=>?_) fun x hx=>?_
    ·simp only [List.mem_cons,List.not_mem_nil,or_false] at hx
     omega
    refine Ok.chk hk (Ok.chk hk ?_)
    rw [Top_eq k h0 h1]
    refine Ok.lift ?_
    refine Ok.chk hk ?_
    rw [wnext h0 (by omega),Zqx _ _ h0 h1,Zqy _ _ _ h0 h1]
    have ht:=Zql h0 h1
    refine kk (r81.2,s.2.set k (iMin x (topOf k))) ⟨h81,e2.set h0 h1 ?_ ?_⟩
    ·unfold iMin; split <;> omega
    ·unfold iMin; split <;> omega
   ·show Ok (Zba b (n + 1) s.1 s.2 5) _
    rw [Zba,if_neg (by decide)]
    exact Ok.ret h
  exact key (r11.2,Zgh) ⟨h11,z_ok⟩
 ·obtain⟨o1,o2⟩:=o
  show Ok ((Zee o2).bind _) _
  rw [Zsm g2]
  exact Ok.lift (Ok.ret ⟨hdr_ok g2,g1⟩)
end Go.AM
set_option maxRecDepth 100000
namespace Go.AM
open Go
end Go.AM
set_option maxRecDepth 100000
namespace Go.AM
open Go
def pt (h:Zk):List Int:=[h.Src,h.Dst,h.Proto,h.SrcPort,h.DstPort]
theorem pt_ok {h:Zk} (hh:Za1 h):vP tops5 (pt h):=by
 have:=hv_ok hh
 exact⟨this.h0.1,this.h0.2,this.h1.1,this.h1.2,this.h2.1,this.h2.2,this.h3.1,this.h3.2,this.h4.1,this.h4.2,trivial⟩
theorem pt_inj {g h:Zk} (e:pt g=pt h):g=h:=by
 obtain⟨a,b,c,d,f⟩:=g
 obtain⟨a',b',c',d',f'⟩:=h
 simp only [pt,List.cons.injEq,and_true] at e
 obtain⟨rfl,rfl,rfl,rfl,rfl⟩:=e
 rfl
theorem cB_eq (b:Bx) (h:Zk):cB b h=(vB b && mB (toL b) (pt h)):=by
 unfold cB
 congr 1
 unfold allF outB
 rw [Bool.eq_iff_iff]
 simp only [toL,pt,mB,hv,Bool.not_eq_true',Bool.or_eq_false_iff,decide_eq_false_iff_not,Bool.and_eq_true,Zdd,Arr5.get]
 simp
 omega
theorem Zl3 {h:Zk} (hh:Za1 h) {l:List Bx} (hl:l.length≤1000000000000):Zdc l h=some (mem (l.filter vB) (pt h)):=by
 unfold Zdc
 rw [Zkr (L:=Zcf l h) l (fun _ x=>if cB x h=true then some true else none) hl (fun n i hi=>by
  rw [Zcf]
  simp only [show ((i:Int)<(l.length:Int)) from by omega,decide_true,if_true,Zcl hi,Option.bind_some,Zqk hh,wsucc (by omega:i<1000000000001)]
  cases cB l[i] h <;> rfl) (fun n=>by rw [Zcf]; simp)]
 have e:∀(l:List Bx) (i:Nat),findI (fun _ x=>if cB x h=true then some true else none) i l=if mem (l.filter vB) (pt h)=true then some true else none:=by
  intro l
  induction l with
  | nil=>intro i; rfl
  | cons b l ih=>
   intro i
   simp only [findI,cB_eq]
   have e2:mem ((b :: l).filter vB) (pt h)=((vB b && mB (toL b) (pt h)) || mem (l.filter vB) (pt h)):=by
    rw [List.filter_cons]
    by_cases hb:vB b=true
    ·rw [if_pos hb,hb,Bool.true_and,show b :: l.filter vB=[b]++l.filter vB from rfl,Zr3,Zu7]
    ·rw [if_neg hb]
     rw [Bool.not_eq_true] at hb
     rw [hb]; rfl
   rw [e2]
   by_cases hb:(vB b && mB (toL b) (pt h))=true
   ·rw [if_pos hb,hb]; rfl
   ·rw [if_neg hb]
    rw [Bool.not_eq_true] at hb
    rw [hb,Bool.false_or]
    have:=ih (i + 1)
    simp only [cB_eq] at this
    exact this
 rw [e]
 cases mem (l.filter vB) (pt h) <;> rfl
end Go.AM
set_option maxRecDepth 100000
namespace Go.AM
open Go
theorem Zh5:∀(ts:List Int) {b:RL} (p:List Int),vR ts b→0≤bel b p
 | [],[],_,_=>by unfold bel; omega
 | [],_ :: _,_,h=>h.elim
 | _ :: _,[],_,h=>h.elim
 | t :: ts,r :: b,[],_=>by unfold bel; omega
 | t :: ts,r :: b,x :: p,⟨h0,h1,h2,h3⟩=>by
  have i:=Zh5 ts p h3
  have v:=(Zf7 ts h3).1
  unfold bel
  have hm:r.Lo<x→0≤vol b * min (x - r.Lo) (wd r):=fun h=>Int.mul_nonneg (by omega) (by unfold wd; omega)
  split
  ·rename_i h
   have:=hm h
   split <;> omega
  ·split <;> omega
theorem Zu9 {f:Nat} (hf:f<5) (h:Zk):(pt h).drop f=(hv h).get (f:Int) :: (pt h).drop (f + 1):=by
 rcases fiveN hf with rfl | rfl | rfl | rfl | rfl <;> rfl
theorem hv_get {h:Zk} (hh:Za1 h) {f:Nat} (hf:f<5):0≤(hv h).get (f:Int)∧(hv h).get (f:Int)≤4294967295:=by
 have v:=hv_ok hh
 have:=v.h0; have:=v.h1; have:=v.h2; have:=v.h3; have:=v.h4
 rcases fiveN hf with rfl | rfl | rfl | rfl | rfl
 ·show 0≤(hv h).x0∧(hv h).x0≤_; omega
 ·show 0≤(hv h).x1∧(hv h).x1≤_; omega
 ·show 0≤(hv h).x2∧(hv h).x2≤_; omega
 ·show 0≤(hv h).x3∧(hv h).x3≤_; omega
 ·show 0≤(hv h).x4∧(hv h).x4≤_; omega
theorem Zr7 {b:Bx} (hb:BOk b) {h:Zk} (hh:Za1 h):∀(j f n:Nat) (c:Int),f + j=5→j<n→0≤c→c + bel (sf f b) ((pt h).drop f)<340282366920938463463374607431768211456→Zca b h n (cN c) (f:Int)=some (cN (c + bel (sf f b) ((pt h).drop f)))
 | 0,f,n + 1,c,e,_,hc,hx=>by
  have:f=5:=by omega
  subst this
  rw [Zca,if_neg (by decide)]
  show _=some (cN (c + bel [] []))
  unfold bel
  rw [Int.add_zero]
 | j + 1,f,n + 1,c,e,hn,hc,hx=>by
  have hf:f<5:=by omega
  obtain⟨hr,ht⟩:=getR hb hf
  have hg:=hv_get hh hf
  have hvr:=sf_vR hb (f:=f + 1) (by omega)
  have v:=Zf7 _ hvr
  have pd:=Zjo (f + 1) (by omega)
  have nn:=Zh5 _ ((pt h).drop (f + 1)) hvr
  have r0:=hr.h0
  have r1:=hr.h1
  have r2:=hr.h2
  have hlt:(decide ((f:Int)<5))=true:=decide_eq_true (by omega)
  rw [Zh8 hf b,Zu9 hf h] at hx ⊢
  rw [bel] at hx ⊢
  rw [Zca,if_pos hlt,if_pos (by omega),bindC (Zt0 hh (by omega) (by omega))]
  generalize hq:(hv h).get (f:Int)=x at hx hg ⊢
  have hstep:∃ c',(if (decide (x > (Arr5.get b (f:Int)).Lo))=true then
    (Zcc (Arr5.get b (f:Int))).bind fun(r165:Int)=>
    (Zcx b (IntKind.wrap .i64 ((f:Int) + (1:Int)))).bind fun(r167:Zh)=>
    (Zb6 r167 (iMin (IntKind.wrap .u64 ((IntKind.wrap .u64 x) - (IntKind.wrap .u64 (Arr5.get b (f:Int)).Lo))) r165)).bind fun(r169:(Zh × Bool))=>
    (Zda (cN c) r169.1).bind fun(r171:Zh)=>
    some r171
   else
    some (cN c))=some (cN c')∧c'=c + (if (b.get (f:Int)).Lo<x then vol (sf (f + 1) b) * min (x - (b.get (f:Int)).Lo) (wd (b.get (f:Int))) else 0)∧0≤c':=by
   by_cases hl:(b.get (f:Int)).Lo<x
   ·rw [if_pos hl] at hx ⊢
    have hmin:0≤min (x - (b.get (f:Int)).Lo) (wd (b.get (f:Int)))∧min (x - (b.get (f:Int)).Lo) (wd (b.get (f:Int)))≤4294967296:=by unfold wd; omega
    have hm0:0≤vol (sf (f + 1) b) * min (x - (b.get (f:Int)).Lo) (wd (b.get (f:Int))):=Int.mul_nonneg (by omega) hmin.1
    have hm1:vol (sf (f + 1) b) * min (x - (b.get (f:Int)).Lo) (wd (b.get (f:Int)))<340282366920938463463374607431768211456:=by
     have:(0:Int)≤(if inR x (b.get (f:Int))=true then bel (sf (f + 1) b) ((pt h).drop (f + 1)) else 0):=by split <;> omega
     omega
    obtain⟨k,hk⟩:=Zih (a:=vol (sf (f + 1) b)) (n:=min (x - (b.get (f:Int)).Lo) (wd (b.get (f:Int)))) (by omega) hmin.1 (by omega) hm1 (by omega)
    have hi:iMin (IntKind.wrap .u64 ((IntKind.wrap .u64 x) - (IntKind.wrap .u64 (Arr5.get b (f:Int)).Lo))) (wd (b.get (f:Int)))=min (x - (b.get (f:Int)).Lo) (wd (b.get (f:Int))):=by
     rw [wu64 (x:=x) (by omega) (by omega),wu64 (x:=(b.get (f:Int)).Lo) (by omega) (by omega),wu64 (by omega) (by omega)]
     unfold iMin
     split <;> omega
    have hbig:c + vol (sf (f + 1) b) * min (x - (b.get (f:Int)).Lo) (wd (b.get (f:Int)))<340282366920938463463374607431768211456:=by
     have:(0:Int)≤(if inR x (b.get (f:Int))=true then bel (sf (f + 1) b) ((pt h).drop (f + 1)) else 0):=by split <;> omega
     omega
    refine⟨_,?_,rfl,by omega⟩
    rw [if_pos (decide_eq_true hl),Zk0 hr ht,wsucc (by omega)]
    simp only [Option.bind_some,Zo9 hb (show f + 1≤5 by omega),hi,hk]
    rw [Zoi hc hm0 hbig]
    rfl
   ·rw [if_neg hl]
    refine⟨c,?_,by omega,hc⟩
    rw [if_neg (by simpa using hl)]
  obtain⟨c',s1,s2,s3⟩:=hstep
  rw [bindC s1]
  simp only [Option.bind_some]
  by_cases hin:inR x (b.get (f:Int))=true
  ·have hin':=Zdd.1 hin
   rw [if_pos hin] at hx ⊢
   rw [if_neg (by simp; omega)]
   simp only [Option.bind_some]
   rw [wsucc (by omega),Zr7 hb hh j (f + 1) n c' (by omega) (by omega) s3 (by omega),s2,Int.add_assoc]
  ·have hin':x<(b.get (f:Int)).Lo∨x > (b.get (f:Int)).Hi:=by rw [Zdd] at hin; omega
   rw [if_neg hin] at hx ⊢
   rw [if_pos (by simp; omega)]
   simp only [Option.bind_some]
   rw [s2,Int.add_zero]
theorem Zua {b:Bx} (hb:BOk b) {h:Zk} (hh:Za1 h) (hx:bel (toL b) (pt h)<340282366920938463463374607431768211456):Zeg b h=some (cN (bel (toL b) (pt h))):=by
 unfold Zeg
 have:=Zr7 hb hh 5 0 fuel 0 rfl (by unfold fuel; omega) (by omega) (by rw [Int.zero_add]; exact hx)
 rw [Int.zero_add] at this
 have e0:Zca b h fuel Zo 0=_:=this
 rw [e0]
 rfl
theorem Zub {l:List Bx} (hok:∀ b∈l,BOk b) (p:List Int):0≤R (l.map toL) p:=by
 induction l with
 | nil=>show (0:Int)≤0; omega
 | cons b l ih=>
  have:=ih fun x hx=>hok x (List.mem_cons_of_mem _ hx)
  have:=Zh5 _ p (ok_vR (hok b (List.mem_cons_self ..)))
  rw [List.map_cons,R]; omega
theorem rank_L {s:List Bx × Int} (hl:s.1.length≤1000000) (hok:∀ b∈s.1,BOk b) {h:Zk} (hh:Za1 h):∀(j i n:Nat) (c:Int),s.1.length - i=j→i≤s.1.length→j<n→0≤c→c + R ((s.1.drop i).map toL) (pt h)<340282366920938463463374607431768211456→Zcj h s n (cN c) (i:Int)=some (cN (c + R ((s.1.drop i).map toL) (pt h)))
 | 0,i,n + 1,c,e,hi,_,hc,hb=>by
  rw [Zcj,if_neg (by simp; omega),List.drop_eq_nil_of_le (by omega)]
  show _=some (cN (c + 0))
  rw [Int.add_zero]
 | j + 1,i,n + 1,c,e,hi,hn,hc,hb=>by
  have hi':i<s.1.length:=by omega
  rw [List.drop_eq_getElem_cons hi',List.map_cons,R] at hb ⊢
  have hx:=hok _ (List.getElem_mem hi')
  have hv:=Zh5 _ (pt h) (ok_vR hx)
  have hV:=Zub (l:=s.1.drop (i + 1)) (fun b hb=>hok b (List.mem_of_mem_drop hb)) (pt h)
  rw [Zcj,if_pos (by simp; omega),Zcl hi']
  simp only [Option.bind_some]
  rw [Zua hx hh (by omega)]
  simp only [Option.bind_some]
  rw [Zoi hc hv (by omega)]
  simp only [Option.bind_some]
  rw [wsucc (by omega),rank_L hl hok hh j (i + 1) n _ (by omega) (by omega) (by omega) (by omega) (by omega),Int.add_assoc]
noncomputable def rkA (l:List Bx) (p:List Int):Zh × Int:=if (st l).2 ≠ 0 then (⟨0,0⟩,(st l).2) else (cN (R ((st l).1.map toL) p),0)
theorem R_vs {l:List Bx} (h:VS l) {p:List Int} (hp:vP tops5 p):0≤R (l.map toL) p∧R (l.map toL) p + b1 (mem l p)≤V (l.map toL):=Zk8 _ Zgm h.cf hp
theorem Zr8 {l:List Bx} (hl:l.length≤300000) (hin:∀ x∈l,BIn x) {h:Zk} (hh:Za1 h):Zd4 l h=some (rkA l (pt h)):=by
 unfold Zd4 rkA
 rw [Zk9 hl hin]
 simp only [Option.bind_some]
 by_cases hz:(st l).2=0
 ·have hv:=(st_ok l).1.vs
  have hV:=V_vs hv
  have hR:=R_vs hv (pt_ok hh)
  have h01:=b1_01 (mem (st l).1 (pt h))
  rw [if_neg (by simp [hz]),if_neg (by simp [hz])]
  have:=rank_L (s:=st l) (by have:=hv.len; omega) hv.ok hh _ 0 fuel 0 rfl (by omega) (by have:=hv.len; unfold fuel; omega) (by omega) (by rw [Int.zero_add]; show R ((st l).1.map toL) (pt h)<_; omega)
  rw [Int.zero_add] at this
  have e0:Zcj h (st l) fuel Zo 0=_:=this
  rw [e0]
  rfl
 ·rw [if_pos (by simpa using hz),if_pos (by simpa using hz)]
end Go.AM
set_option maxRecDepth 100000
namespace Go.AM
open Go
def pv (v:Arr5 Int):List Int:=[v.x0,v.x1,v.x2,v.x3,v.x4]
theorem Zr9 {f:Nat} (hf:f<5) (v:Arr5 Int):(pv v).drop f=v.get (f:Int) :: (pv v).drop (f + 1):=by
 rcases fiveN hf with rfl | rfl | rfl | rfl | rfl <;> rfl
theorem Zva {f:Nat} (hf:f<5) (v:Arr5 Int) (x:Int):(v.set (f:Int) x).get (f:Int)=x:=by
 rcases fiveN hf with rfl | rfl | rfl | rfl | rfl <;> rfl
theorem set_ne {f i:Nat} (hf:f<5) (hi:i<f) (v:Arr5 Int) (x:Int):(v.set (f:Int) x).get (i:Int)=v.get (i:Int):=by
 rcases fiveN hf with rfl | rfl | rfl | rfl | rfl <;> rcases (show i=0∨i=1∨i=2∨i=3 by omega) with rfl | rfl | rfl | rfl <;> first | rfl | omega
theorem Zsa {a b:Int} (hb:0≤b) (hab:b≤a) (ha:a<340282366920938463463374607431768211456):Zc0 (cN a) (cN b)=some (cN (a - b)):=by
 unfold Zc0 cN
 simp only
 rw [if_pos (by omega)]
 by_cases h:a % 18446744073709551616<b % 18446744073709551616 + 0
 ·rw [if_pos h,if_pos (by omega)]
  congr 2 <;> omega
 ·rw [if_neg h,if_pos (by omega)]
  congr 2 <;> omega
theorem Zoj {c k:Int} (hc:1≤c) (hk:0≤k) (hkk:k<340282366920938463463374607431768211456) {most:Int} (hm:most≤4294967295) (hb:c * most<340282366920938463463374607431768211456) (hcc:c<340282366920938463463374607431768211456):∀(j n:Nat) (lo hi:Int),hi - lo≤j→j<n→0≤lo→lo≤k / c→k / c≤hi→hi≤most→Zbs (cN k) (cN c) n lo hi=some (k / c)
 | 0,n + 1,lo,hi,h1,_,h0,h2,h3,h4=>by
  rw [Zbs,if_neg (by simp; omega)]
  congr 1
  omega
 | j + 1,n + 1,lo,hi,h1,hn,h0,h2,h3,h4=>by
  by_cases hl:lo<hi
  ·have hmid:IntKind.wrap .u64 (Int.tdiv (IntKind.wrap .u64 ((IntKind.wrap .u64 (lo + hi)) + (1:Int))) (2:Int))=(lo + hi + 1) / 2:=by
    rw [wu64 (x:=lo + hi) (by omega) (by omega),wu64 (x:=lo + hi + 1) (by omega) (by omega),Int.tdiv_eq_ediv_of_nonneg (by omega),wu64 (by omega) (by omega)]
   have hmle:c * ((lo + hi + 1) / 2)≤c * most:=Int.mul_le_mul_of_nonneg_left (by omega) (by omega)
   have hm0:0≤c * ((lo + hi + 1) / 2):=Int.mul_nonneg (by omega) (by omega)
   obtain⟨b,ht⟩:=Zih (a:=c) (n:=(lo + hi + 1) / 2) (by omega) (by omega) (by omega) (by omega) hcc
   rw [Zbs,if_pos (decide_eq_true hl)]
   simp only [hmid,ht,Option.bind_some]
   rw [Zhw (cN_ok hm0 (by omega)) (cN_ok hk hkk),cN_num,cN_num]
   simp only [Option.bind_some]
   have key:(lo + hi + 1) / 2≤k / c ↔ c * ((lo + hi + 1) / 2)≤k:=by rw [Int.le_ediv_iff_mul_le (by omega),Int.mul_comm]
   by_cases hle:(lo + hi + 1) / 2≤k / c
   ·have h5:=key.1 hle
    rw [if_pos (by unfold cmp3; split <;> (try split) <;> simp <;> omega)]
    exact Zoj hc hk hkk hm hb hcc j n _ hi (by omega) (by omega) (by omega) hle h3 h4
   ·have h5:¬ c * ((lo + hi + 1) / 2)≤k:=fun h=>hle (key.2 h)
    rw [if_neg (by unfold cmp3; rw [if_neg (by omega),if_pos (by omega)]; decide),wu64 (by omega) (by omega)]
    exact Zoj hc hk hkk hm hb hcc j n lo _ (by omega) (by omega) h0 h2 (by omega) (by omega)
  ·rw [Zbs,if_neg (by simp; omega)]
   congr 1
   omega
theorem Zuc {c k:Int} (hc:1≤c) (hk:0≤k) (hkk:k<340282366920938463463374607431768211456) {most:Int} (hm:most≤4294967295) (hb:c * most<340282366920938463463374607431768211456) (hcc:c<340282366920938463463374607431768211456) (hq:k / c≤most):Zeh (cN k) (cN c) most=some (k / c):=by
 unfold Zeh
 have h0:0≤k / c:=Int.ediv_nonneg hk (by omega)
 rw [Zoj hc hk hkk hm hb hcc 4294967296 fuel 0 most (by omega) (by unfold fuel; omega) (by omega) h0 hq (by omega)]
 rfl
theorem Zvb {f:Nat} (hf:f<5) {l:List Bx} (hl:l.length≤1000000) (b0:Bx):∀(k j n:Nat),l.length - j=k→k<n→1≤j→j≤l.length→(∀ i (h:i<l.length),i<j→(l[i]).get (f:Int)=b0.get (f:Int)) →
  ∃ N:Nat,Zb3 (f:Int) l b0 n (j:Int)=some (N:Int)∧j≤N∧RunTo f l (b0.get (f:Int)) N:=by
 intro k
 induction k with
 | zero=>
  intro j n hk hn h1 hj he
  cases n with
  | zero=>omega
  | succ n=>
  have hd:decide ((j:Int)<(l.length:Int))=false:=by simp; omega
  rw [Zb3,hd]
  exact⟨j,rfl,Nat.le_refl _,hj,he,fun h=>by omega⟩
 | succ k ih=>
  intro j n hk hn h1 hj he
  cases n with
  | zero=>omega
  | succ n=>
  have hjl:j<l.length:=by omega
  have hd:decide ((j:Int)<(l.length:Int))=true:=by simp; omega
  rw [Zb3,hd]
  simp only [Option.bind_some,if_true,Zcl hjl]
  rw [if_pos ⟨by omega,by omega⟩]
  simp only [Option.bind_some]
  by_cases hq:(l[j]).get (f:Int)=b0.get (f:Int)
  ·rw [if_pos (Zix.2 hq),wsucc (by omega)]
   obtain⟨N,e,g1,g2⟩:=ih (j + 1) n (by omega) (by omega) (by omega) (by omega) (fun i h hi=>by
    rcases Nat.lt_or_eq_of_le (Nat.lt_succ_iff.1 hi) with h2 | h2
    ·exact he i h h2
    ·subst h2; exact hq)
   exact⟨N,e,by omega,g2⟩
  ·rw [if_neg (fun h=>hq (Zix.1 h))]
   exact⟨j,rfl,Nat.le_refl _,hj,he,fun _=>hq⟩
def hdNe (r:Zb) (B:List RL):Prop:=∀ b,B.head? = some b→∃ r' b',b=r' :: b'∧r' ≠ r
theorem Zsb (r:Zb):∀ {A A' B B':List RL},A.map (r :: ·)++B=A'.map (r :: ·)++B'→hdNe r B→hdNe r B'→A=A'∧B=B'
 | [],[],_,_,e,_,_=>⟨rfl,e⟩
 | [],a :: A',B,B',e,h,_=>by
  obtain⟨r',b',e1,e2⟩:=h (r :: a) (by rw [show B=_ from e]; rfl)
  injection e1 with e1 _
  exact absurd e1.symm e2
 | a :: A,[],B,B',e,_,h=>by
  obtain⟨r',b',e1,e2⟩:=h (r :: a) (by rw [show B'=_ from e.symm]; rfl)
  injection e1 with e1 _
  exact absurd e1.symm e2
 | a :: A,a' :: A',B,B',e,h,h'=>by
  simp only [List.map_cons,List.cons_append,List.cons.injEq] at e
  obtain⟨⟨_,e1⟩,e2⟩:=e
  obtain⟨i1,i2⟩:=Zsb r e2 h h'
  exact⟨by rw [e1,i1],i2⟩
theorem Zud {t:Int} {y:Cell} {c:List Cell} (h:Ord t (y :: c)):hdNe y.1 (flt c):=by
 intro b hb
 cases c with
 | nil=>cases hb
 | cons z c=>
  have hz:=h.ok z (by simp)
  have hy:=h.ok y (by simp)
  have hg:=((List.pairwise_cons.1 h.pw).1 z (List.mem_cons_self ..)).1
  rw [Zc8] at hb
  cases hz2:z.2 with
  | nil=>exact absurd hz2 hz.2.2.2
  | cons d ds=>
   rw [hz2] at hb
   simp only [List.map_cons,List.cons_append,List.head?_cons,Option.some.injEq] at hb
   exact⟨z.1,d,hb.symm,fun e=>by rw [e] at hg; omega⟩
theorem A_zero {t:Int}:∀ {c:List Cell},(∀ x∈c,0≤x.1.Lo∧x.1.Lo≤x.1.Hi∧x.1.Hi≤t)→∀ {n:Nat},(∀ x∈c,(n:Int)≤x.1.Lo)→A c n=0
 | [],_,n,_=>A_nil n
 | x :: c,h,n,hn=>by
  have hx:=h x (List.mem_cons_self ..)
  have:=hn x (List.mem_cons_self ..)
  rw [A_cons c hx.1 hx.2.1,if_neg (by omega),A_zero (fun y hy=>h y (List.mem_cons_of_mem _ hy)) (fun y hy=>hn y (List.mem_cons_of_mem _ hy))]
  rfl
end Go.AM
set_option maxRecDepth 100000
namespace Go.AM
open Go
theorem V_posN:∀ {ts:List Int} {l:List RL},(∀ t∈ts,0≤t)→CF ts l→l ≠ []→1≤V l:=fun {ts l} _ h hn=>by
 have hr:=CF_vR ts h
 have key:∀(m:List RL),(∀ b∈m,vR ts b)→0≤V m:=by
  intro m
  induction m with
  | nil=>intro _; show (0:Int)≤0; omega
  | cons b m ih=>
   intro hm
   have:=ih fun x hx=>hm x (List.mem_cons_of_mem _ hx)
   have:=Zf7 _ (hm b (List.mem_cons_self ..))
   rw [V]; omega
 cases l with
 | nil=>exact absurd rfl hn
 | cons b m=>
  have:=key m fun x hx=>hr x (List.mem_cons_of_mem _ hx)
  have:=Zf7 _ (hr b (List.mem_cons_self ..))
  rw [V]; omega
theorem sel_L2 {f:Nat} (hf:f<5) {v:Arr5 Int} (hv:VOk v):∀(m n:Nat) (s:List Bx) (c:List Cell) (k:Int),s.length≤m→m<n→s.length≤4096→(∀ b∈s,BOk b)→s.map (sf f)=flt c→Ord (topOf (f:Int)) c→(∀ x∈c,CF (tops5.drop (f + 1)) x.2)→0≤k→k<V (flt c) →
  ∃(x:Nat) (k2:Int) (s2:List Bx),Zcw (hdr v) (f:Int) n (cN k) s=some (cN k2,hdr (v.set (f:Int) (x:Int)),s2)∧(x:Int)≤topOf (f:Int)∧(∀ b∈s2,BOk b)∧s2.length≤4096∧s2.map (sf (f + 1))=lk c x∧A c x + k2=k∧0≤k2∧k2<V (lk c x)∧∃ z∈c,z.1.Lo≤(x:Int)∧(x:Int)≤z.1.Hi:=by
 intro m
 induction m with
 | zero=>
  intro n s c k h1 _ _ _ h5 _ _ h8 h9
  have:s=[]:=List.eq_nil_of_length_eq_zero (by omega)
  subst this
  rw [← h5] at h9
  have:V (([]:List Bx).map (sf f))=0:=rfl
  omega
 | succ m ih=>
  intro n s c k h1 h2 h3 hok h5 ho hcf h8 h9
  cases n with
  | zero=>omega
  | succ n=>
  cases c with
  | nil=>
   have:V (flt [])=0:=rfl
   omega
  | cons y c=>
  have hy:=ho.ok y (List.mem_cons_self ..)
  have hbnd:∀ x∈(y :: c),0≤x.1.Lo∧x.1.Lo≤x.1.Hi∧x.1.Hi≤topOf (f:Int):=fun x hx=>⟨(ho.ok x hx).1,(ho.ok x hx).2.1,(ho.ok x hx).2.2.1⟩
  have htop:=(getR (b:=full) Zrs hf).2
  have hCF:CF (tops5.drop f) (flt (y :: c)):=by rw [Zhv hf]; exact⟨_,rfl,ho,hcf⟩
  have hCF':CF (tops5.drop f) (flt c):=by rw [Zhv hf]; exact⟨_,rfl,ho.tail,fun x hx=>hcf x (List.mem_cons_of_mem _ hx)⟩
  have hVle:=V_le _ (Zmw f) hCF
  have hp:=Zjo f (by omega)
  have hV0:=Zig _ (Zmw f) hCF'
  have hU:=V_posN (Zmw (f + 1)) (hcf y (List.mem_cons_self ..)) hy.2.2.2
  have hVs:V (flt (y :: c))=wd y.1 * V y.2 + V (flt c):=by rw [Zc8,V_app,V_map]
  have hW:1≤wd y.1∧wd y.1≤4294967296:=by unfold wd; omega
  have hUW:V y.2≤wd y.1 * V y.2:=by
   have:=Int.mul_le_mul_of_nonneg_right hW.1 (show 0≤V y.2 by omega)
   rw [Int.one_mul] at this
   exact this
  have hcomm:V y.2 * wd y.1=wd y.1 * V y.2:=Int.mul_comm _ _
  have hsne:s ≠ []:=fun e=>by
   rw [e,Zc8] at h5
   cases hy2:y.2 with
   | nil=>exact hy.2.2.2 hy2
   | cons d ds=>rw [hy2] at h5; cases h5
  have hs0:0<s.length:=List.length_pos_iff.2 hsne
  have i0:idx s (0:Int)=some s[0]:=Zcl hs0
  obtain⟨N,e,hN1,hrun⟩:=Zvb hf (l:=s) (by omega) s[0] (s.length - 1) 1 fuel rfl (by unfold fuel; omega) (by omega) (by omega) (fun i h hi=>by
   have:i=0:=by omega
   subst this; rfl)
  have e':Zb3 (f:Int) s s[0] fuel 1=some (N:Int):=e
  have hNl:=hrun.h1
  obtain⟨hsp,hne,hhd⟩:=Zo6 hf hN1 hrun hsne
  have hr:s[0].get (f:Int)=y.1:=by
   rw [hsp,Zc8] at h5
   cases hy2:y.2 with
   | nil=>exact absurd hy2 hy.2.2.2
   | cons d ds=>
    cases ht:(s.take N).map (sf (f + 1)) with
    | nil=>exact absurd ht hne
    | cons d' ds'=>
     rw [hy2,ht] at h5
     simp only [List.map_cons,List.cons_append,List.cons.injEq] at h5
     exact h5.1.1
  rw [hr] at hsp hhd
  obtain⟨hA,hB⟩:=Zsb y.1 (hsp.symm.trans (h5.trans (Zc8 y c))) hhd (Zud ho)
  have hoks:∀ b∈s.take N,BOk b:=fun b hb=>hok b (List.mem_of_mem_take hb)
  have htot:Zbr (List.drop (Int.toNat (0:Int)) (List.take (Int.toNat (N:Int)) s)) (IntKind.wrap .i64 ((f:Int) + (1:Int)))=some (cN (V y.2)):=by
   rw [wsucc (by omega)]
   show Zbr (s.take N) ((f + 1:Nat):Int)=_
   rw [Zjp (by rw [List.length_take]; omega) hoks (by omega) (by rw [hA]; omega),hA]
  obtain⟨hgr,hgt⟩:=getR (hok s[0] (List.getElem_mem hs0)) hf
  have hlen:=Zk0 hgr hgt
  rw [hr] at hlen
  obtain⟨bb,ht⟩:=Zih (a:=V y.2) (n:=wd y.1) (by omega) (by omega) (by omega) (by omega) (by omega)
  have hUW0:0≤V y.2 * wd y.1:=by omega
  rw [Zcw,if_pos (decide_eq_true (by omega)),bindC i0,if_pos (by omega),bindC e',if_pos (by omega),bindC htot,hr,bindC hlen,bindC ht,bindC (Zhw (cN_ok h8 (by omega)) (cN_ok hUW0 (by omega))),cN_num,cN_num]
  by_cases hk:V y.2 * wd y.1≤k
  ·rw [if_pos (by unfold cmp3; split <;> (try split) <;> simp <;> omega),bindC (Zsa hUW0 hk (by omega)),if_pos (by omega)]
   have hd:List.drop (Int.toNat (N:Int)) (List.take (Int.toNat (s.length:Int)) s)=s.drop N:=by
    show List.drop N (List.take s.length s)=_
    rw [List.take_length]
   rw [hd]
   obtain⟨x,k2,s2,g1,g2,g3,g4,g5,g6,g7,g8,z,hz,g9,g10⟩:=ih n (s.drop N) c (k - V y.2 * wd y.1) (by rw [List.length_drop]; omega) (by omega) (by rw [List.length_drop]; omega) (fun b hb=>hok b (List.mem_of_mem_drop hb)) hB ho.tail (fun x hx=>hcf x (List.mem_cons_of_mem _ hx)) (by omega) (by omega)
   have hgp:=((List.pairwise_cons.1 ho.pw).1 z hz).1
   have hlk:lk (y :: c) x=lk c x:=by rw [Zet,if_neg (by rw [Zdd]; omega)]; rfl
   refine⟨x,k2,s2,g1,g2,g3,g4,by rw [hlk]; exact g5,?_,g7,by rw [hlk]; exact g8,z,List.mem_cons_of_mem _ hz,g9,g10⟩
   rw [A_cons c hy.1 hy.2.1,if_pos (by omega),Int.min_eq_right (by unfold wd; omega)]
   omega
  ·have hq0:0≤k / V y.2:=Int.ediv_nonneg h8 (by omega)
   have hq1:k / V y.2<wd y.1:=Int.ediv_lt_of_lt_mul (by omega) (by omega)
   have hdm:=Int.emod_add_mul_ediv k (V y.2)
   have hm2:0≤V y.2 * (k / V y.2):=Int.mul_nonneg (by omega) hq0
   have hm0:=Int.emod_nonneg k (show V y.2 ≠ 0 by omega)
   have hm1:=Int.emod_lt_of_pos k (show 0<V y.2 by omega)
   have hmost:IntKind.wrap .u64 (wd y.1 - 1)=wd y.1 - 1:=wu64 (by omega) (by omega)
   have hle:V y.2 * (wd y.1 - 1)≤V y.2 * wd y.1:=Int.mul_le_mul_of_nonneg_left (by omega) (by omega)
   obtain⟨bb2,ht2⟩:=Zih (a:=V y.2) (n:=k / V y.2) (by omega) hq0 (by omega) (by omega) (by omega)
   have hx0:0≤y.1.Lo + k / V y.2∧y.1.Lo + k / V y.2≤y.1.Hi:=by unfold wd at hq1; omega
   have hwith:Zf3 (hdr v) (f:Int) (IntKind.wrap .u32 (y.1.Lo + (IntKind.wrap .u32 (k / V y.2))))=some (hdr (v.set (f:Int) (y.1.Lo + k / V y.2))):=by
    rw [wu32 (x:=k / V y.2) (by omega) (by omega),wu32 (by omega) (by omega)]
    exact Zuv hv (by omega) (by omega) hx0.1 (by omega)
   rw [if_neg (by unfold cmp3; rw [if_pos (by omega)]; decide),bindC hlen,hmost,bindC (Zuc hU h8 (by omega) (by omega) (by omega) (by omega) (by omega)),bindC ht2,bindC (Zsa (by omega) (by omega) (by omega)),if_pos (by omega),bindC hwith]
   obtain⟨x,hx⟩:∃ x:Nat,(x:Int)=y.1.Lo + k / V y.2:=⟨(y.1.Lo + k / V y.2).toNat,by omega⟩
   have hlk:lk (y :: c) x=y.2:=lk_mem ho (List.mem_cons_self ..) (by omega) (by omega)
   refine⟨x,k - V y.2 * (k / V y.2),s.take N,by rw [hx]; rfl,by omega,hoks,by rw [List.length_take]; omega,by rw [hlk]; exact hA,?_,by omega,by rw [hlk]; omega,y,List.mem_cons_self ..,by omega,by omega⟩
   have hz:A c x=0:=A_zero (fun z hz=>hbnd z (List.mem_cons_of_mem _ hz)) fun z hz=>by
    have:=((List.pairwise_cons.1 ho.pw).1 z hz).1
    omega
   rw [A_cons c hy.1 hy.2.1,hz,hx]
   by_cases h0:y.1.Lo<y.1.Lo + k / V y.2
   ·rw [if_pos h0,Int.min_eq_left (by omega),show y.1.Lo + k / V y.2 - y.1.Lo=k / V y.2 by omega]
    omega
   ·rw [if_neg h0,show k / V y.2=0 by omega,Int.mul_zero]
    omega
theorem sel_L1:∀(j f n:Nat) (s:List Bx) (v:Arr5 Int) (k:Int),f + j=5→j<n→s.length≤4096→(∀ b∈s,BOk b)→CF (tops5.drop f) (s.map (sf f))→VOk v→0≤k→k<V (s.map (sf f)) →
  ∃(k':Zh) (v':Arr5 Int),Zb4 n (cN k) (hdr v) s (f:Int)=some (k',hdr v')∧VOk v'∧(∀ i:Nat,i<f→v'.get (i:Int)=v.get (i:Int))∧mS (s.map (sf f)) ((pv v').drop f)=true∧R (s.map (sf f)) ((pv v').drop f)=k
 | 0,f,n + 1,s,v,k,e,_,h3,hok,hC,hv,h0,h1=>by
  have:f=5:=by omega
  subst this
  have hC':CF [] (s.map (sf 5)):=hC
  rw [V_zero hC'] at h1
  refine⟨cN k,v,?_,hv,fun _ _=>rfl,?_,?_⟩
  ·rw [Zb4,if_neg (by decide)]
  ·show mS (s.map (sf 5)) []=true
   cases h:mS (s.map (sf 5)) [] with
   | true=>rfl
   | false=>rw [h,if_neg (by decide)] at h1; omega
  ·show R (s.map (sf 5)) []=k
   rw [Zte hC']
   split at h1 <;> omega
 | j + 1,f,n + 1,s,v,k,e,hn,h3,hok,hC,hv,h0,h1=>by
  have hf:f<5:=by omega
  rw [Zhv hf] at hC
  obtain⟨c,hc,ho,hcf⟩:=hC
  rw [hc] at h1
  obtain⟨x,k2,s2,g1,g2,g3,g4,g5,g6,g7,g8,_⟩:=sel_L2 hf hv s.length fuel s c k (Nat.le_refl _) (by unfold fuel; omega) h3 hok hc ho hcf h0 h1
  have hbnd:∀ x∈c,0≤x.1.Lo∧x.1.Lo≤x.1.Hi∧x.1.Hi≤topOf (f:Int):=fun x hx=>⟨(ho.ok x hx).1,(ho.ok x hx).2.1,(ho.ok x hx).2.2.1⟩
  obtain⟨k',v',q1,q2,q3,q4,q5⟩:=sel_L1 j (f + 1) n s2 (v.set (f:Int) (x:Int)) k2 (by omega) (by omega) g4 g3 (by rw [g5]; exact CF_lk ho hcf _) (hv.set (by omega) (by omega) (by omega) g2) g7 (by rw [g5]; exact g8)
  have hlt:(decide ((f:Int)<5))=true:=decide_eq_true (by omega)
  have hx:v'.get (f:Int)=(x:Int):=by rw [q3 f (by omega),Zva hf]
  refine⟨k',v',?_,q2,fun i hi=>by rw [q3 i (by omega),set_ne hf hi],?_,?_⟩
  ·rw [Zb4,if_pos hlt,bindC g1]
   simp only
   rw [wsucc (by omega)]
   exact q1
  ·rw [hc,Zr9 hf,hx,Zfh,Zgp,← g5]
   exact q4
  ·rw [hc,Zr9 hf,hx,R_flt hbnd,← g5,q5]
   exact g6
theorem Zpa {l:List Bx} (hl:l.length≤300000) (hin:∀ x∈l,BIn x) (hz:(st l).2=0) {k:Int} (h0:0≤k) (h1:k<V ((st l).1.map toL)) :
  ∃ h,Zcd l (cN k)=some (h,true)∧Za1 h∧mem (st l).1 (pt h)=true∧R ((st l).1.map toL) (pt h)=k:=by
 have so:=(st_ok l).1.vs
 have hV:=V_vs so
 have e:(st l).1.map (sf 0)=(st l).1.map toL:=rfl
 have tot:Zbr (st l).1 0=some (cN (V ((st l).1.map toL))):=Zjp (f:=0) (by have:=so.len; omega) so.ok (by omega) (by rw [e]; omega)
 have z0:VOk ⟨0,0,0,0,0⟩:=⟨by decide,by decide,by decide,by decide,by decide⟩
 obtain⟨k',v',q1,q2,_,q4,q5⟩:=sel_L1 5 0 fuel (st l).1 ⟨0,0,0,0,0⟩ k rfl (by unfold fuel; omega) so.len so.ok so.cf z0 h0 h1
 have q1':Zb4 fuel (cN k) Zp (st l).1 0=some (k',hdr v'):=q1
 refine⟨hdr v',?_,hdr_ok q2,q4,q5⟩
 unfold Zcd
 rw [bindC (Zk9 hl hin)]
 simp only [Option.bind_some]
 rw [hz,if_neg (by decide),bindC tot,bindC (Zhw (cN_ok h0 (by omega)) (cN_ok hV.1 (by omega))),cN_num,cN_num]
 simp only [Option.bind_some]
 rw [if_neg (by unfold cmp3; rw [if_pos h1]; decide),bindC q1']
theorem Zk1 {l:List Bx} (hl:l.length≤300000) (hin:∀ x∈l,BIn x) {k:Int} (h0:0≤k) (hk:k<340282366920938463463374607431768211456) (h1:(st l).2 ≠ 0∨V ((st l).1.map toL)≤k):Zcd l (cN k)=some (Zp,false):=by
 unfold Zcd
 rw [bindC (Zk9 hl hin)]
 simp only [Option.bind_some]
 by_cases hz:(st l).2=0
 ·have so:=(st_ok l).1.vs
  have hV:=V_vs so
  have e:(st l).1.map (sf 0)=(st l).1.map toL:=rfl
  have tot:Zbr (st l).1 0=some (cN (V ((st l).1.map toL))):=Zjp (f:=0) (by have:=so.len; omega) so.ok (by omega) (by rw [e]; omega)
  have h1':V ((st l).1.map toL)≤k:=h1.resolve_left fun h=>h hz
  rw [hz,if_neg (by decide),bindC tot,bindC (Zhw (cN_ok h0 hk) (cN_ok hV.1 (by omega))),cN_num,cN_num]
  simp only [Option.bind_some]
  rw [if_pos (by unfold cmp3; split <;> (try split) <;> simp <;> omega)]
 ·rw [if_pos (by simpa using hz),bindC rfl,if_pos rfl]
end Go.AM
set_option maxRecDepth 100000
namespace Go.AM
open Go
def cmpO:List Int→List Int→Unit ⊕ Int
 | x :: g,y :: h=>if x=y then cmpO g h else .inr (if x<y then -1 else 1)
 | _,_=>.inl ()
theorem Zpb:∀ {g h:List Int},g.length=h.length→match cmpO g h with
  | .inl _=>g=h
  | .inr r=>(r=-1∧ltL g h)∨(r=1∧ltL h g)
 | [],[],_=>rfl
 | [],_ :: _,h=>by cases h
 | _ :: _,[],h=>by cases h
 | x :: g,y :: h,e=>by
  have ih:=Zpb (g:=g) (h:=h) (by simpa using e)
  unfold cmpO
  by_cases hx:x=y
  ·rw [if_pos hx]
   subst hx
   cases hc:cmpO g h with
   | inl u=>
    rw [hc] at ih
    show x :: g=x :: h
    rw [show g=h from ih]
   | inr r=>
    rw [hc] at ih
    rcases ih with ⟨h1,h2⟩ | ⟨h1,h2⟩
    ·exact Or.inl ⟨h1,Or.inr ⟨rfl,h2⟩⟩
    ·exact Or.inr ⟨h1,Or.inr ⟨rfl,h2⟩⟩
  ·rw [if_neg hx]
   by_cases hl:x<y
   ·rw [if_pos hl]
    exact Or.inl ⟨rfl,Or.inl hl⟩
   ·rw [if_neg hl]
    exact Or.inr ⟨rfl,Or.inl (by omega)⟩
end Go.AM
set_option maxRecDepth 100000
namespace Go.AM
open Go
theorem Zue {l:List Bx} (hC:CFb l) {g h:Zk} (hg:Za1 g) (hh:Za1 h) (mg:mem l (pt g)=true) (mh:mem l (pt h)=true) (e:R (l.map toL) (pt g)=R (l.map toL) (pt h)):g=h:=by
 have sp:=Zpb (g:=pt g) (h:=pt h) rfl
 have mg':mS (l.map toL) (pt g)=true:=mg
 have mh':mS (l.map toL) (pt h)=true:=mh
 have b:b1 true=1:=rfl
 cases hc:cmpO (pt g) (pt h) with
 | inl u=>
  rw [hc] at sp
  exact pt_inj sp
 | inr r=>
  rw [hc] at sp
  rcases sp with ⟨_,h2⟩ | ⟨_,h2⟩
  ·have:=Zoh tops5 Zgm hC (pt_ok hg) (pt_ok hh) h2
   rw [mg',b] at this
   omega
  ·have:=Zoh tops5 Zgm hC (pt_ok hh) (pt_ok hg) h2
   rw [mh',b] at this
   omega
theorem Zve (h:Zk):Zer h h=true:=by obtain⟨a,b,c,d,f⟩:=h; simp [Zer]
theorem Zjq {t:List Int} {n:Zh} (ht:Zmc t) (hn:Zdw n):Zdg t n=some true:=by
 have hsane:Zfb=some true:=rfl
 refine Ok.eq ?_
 unfold Zdg
 refine Ok.bind (New_ok (Zup ht)) fun r1 h1=>Ok.bind (Ztq true h1 (by omega) (by omega)) fun r3 ⟨c1,c2,c3⟩=>?_
 have hin:∀ x∈r3.1,BIn x:=fun x hx=>(c1 x hx).1
 have hl:r3.1.length≤300000:=by omega
 refine Ok.bind (Zu8 c3 hin (by omega)) fun r5 ⟨n1,n2⟩=>?_
 refine Ok.of_eq ?_
 have so:=(st_ok r3.1).1
 rw [bindC (Zr8 hl hin n1),bindC (Of_eq hl hin)]
 by_cases hz:(st r3.1).2=0
 ·have hmem:∀ p,vP tops5 p→mem (st r3.1).1 p=mem (r3.1.filter vB) p:=(st_ok r3.1).2 hz
  have rk:∀ p,rkA r3.1 p=(cN (R ((st r3.1).1.map toL) p),0):=fun p=>by unfold rkA; rw [if_neg (by simp [hz])]
  have ro:ofA r3.1=(cN (V ((st r3.1).1.map toL)),0):=by unfold ofA; rw [if_neg (by simp [hz])]
  have hV:=V_vs so.vs
  obtain⟨g0,g1⟩:=R_vs so.vs (pt_ok n1)
  have b0:=b1_01 (mem (st r3.1).1 (pt r5.1))
  rw [rk,ro]
  obtain⟨o,ho,hoo⟩:∃ o,Zcd r3.1 (cN (R ((st r3.1).1.map toL) (pt r5.1)))=some o∧(mem (st r3.1).1 (pt r5.1)=true→o=(r5.1,true)):=by
   by_cases hlt:R ((st r3.1).1.map toL) (pt r5.1)<V ((st r3.1).1.map toL)
   ·obtain⟨x,x1,x2,x3,x4⟩:=Zpa hl hin hz g0 hlt
    exact⟨_,x1,fun hm=>by rw [Zue so.vs.cf x2 n1 x3 hm x4]⟩
   ·refine⟨_,Zk1 hl hin g0 (by omega) (Or.inr (by omega)),fun hm=>?_⟩
    rw [hm,show b1 true=1 from rfl] at g1
    omega
  rw [bindC ho]
  simp only [Option.bind_some,bne_self_eq_false,Bool.or_self,Bool.false_eq_true,if_false]
  rw [bindC (Zl3 n1 (by omega)),← hmem _ (pt_ok n1)]
  have hfirst:((some (mem (st r3.1).1 (pt r5.1))).bind fun(b28:Bool)=>if b28=true then (some (!o.2)).bind fun(b30:Bool)=>some (b30 || (!(Zer o.1 r5.1))) else some false)=some false:=by
   cases hm:mem (st r3.1).1 (pt r5.1) with
   | false=>rfl
   | true=>
    rw [hoo hm]
    simp only [Option.bind_some,if_true,Zve]
    rfl
  simp only [Option.bind_some] at hfirst ⊢
  rw [hfirst]
  simp only [Option.bind_some,Bool.false_eq_true,if_false]
  have hn':Zdw { n with Hi:=Int.tmod n.Hi 1099511627776 }:=by
   obtain⟨q1,q2,_⟩:=hn
   unfold Zff at q1 q2
   have e:Int.tmod n.Hi 1099511627776=n.Hi % 1099511627776:=Int.tmod_eq_emod_of_nonneg (by omega)
   refine⟨?_,?_,trivial⟩
   ·show Zff (Int.tmod n.Hi 1099511627776)
    rw [e]
    unfold Zff
    omega
   ·exact q2
  generalize hnn:({ n with Hi:=Int.tmod n.Hi 1099511627776 }:Zh)=n' at hn' ⊢
  obtain⟨k0,k1⟩:=Zu6 hn'
  have en:n'=cN (cnum n'):=cN_of hn'
  generalize hk:cnum n'=k at en k0 k1
  rw [en]
  rw [Zhw (cN_ok k0 k1) (cN_ok hV.1 (by omega)),cN_num,cN_num]
  by_cases hlt:k<V ((st r3.1).1.map toL)
  ·obtain⟨x,x1,x2,x3,x4⟩:=Zpa hl hin hz k0 hlt
   have hc:decide (cmp3 k (V ((st r3.1).1.map toL))<0)=true:=by unfold cmp3; rw [if_pos hlt]; rfl
   rw [bindC x1]
   simp only [Option.bind_some,hc,beq_self_eq_true,Bool.not_true,Bool.false_eq_true,if_false]
   rw [bindC (Zr8 hl hin x2),rk,x4,Zl3 x2 (by omega),← hmem _ (pt_ok x2),x3]
   simp only [Option.bind_some,beq_self_eq_true,Zvd,decide_true,Bool.and_self,if_true,hsane]
  ·have hc:decide (cmp3 k (V ((st r3.1).1.map toL))<0)=false:=Zre (by omega)
   rw [bindC (Zk1 hl hin k0 k1 (Or.inr (by omega)))]
   have ez:Zer Zp (Zk.mk 0 0 0 0 0)=true:=rfl
   simp only [Option.bind_some,hc,beq_self_eq_true,Bool.not_true,Bool.not_false,Bool.false_eq_true,if_false,if_true,ez,hsane]
 ·have e0:=so.three hz
  have rk:rkA r3.1 (pt r5.1)=(cN 0,3):=by unfold rkA; rw [if_pos (by simpa using hz),e0]; rfl
  have ro:ofA r3.1=(cN 0,3):=by unfold ofA; rw [if_pos (by simpa using hz),e0]; rfl
  rw [rk,ro,bindC (Zk1 hl hin (by omega) (by omega) (Or.inl hz))]
  simp only [Option.bind_some,hsane]
  rfl
end Go.AM

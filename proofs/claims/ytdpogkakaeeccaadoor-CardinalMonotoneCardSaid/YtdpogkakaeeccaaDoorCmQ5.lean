/- Parts of a proof, printed short. No condition. -/
import Derived.Lib.Mul64
import Derived.Test.YtdpogkakaeeccaaDoorCmQ4
set_option maxRecDepth 100000
namespace Go.AM
open Go
def mem (l:List Bx) (p:List Int):Bool:=mS (l.map toL) p
def CFb (l:List Bx):Prop:=CF tops5 (l.map toL)
theorem CF_vR:∀(ts:List Int) {l:List RL},CF ts l→∀ b∈l,vR ts b
 | [],l,h,b,hb=>by
  rcases h with rfl | rfl
  ·cases hb
  ·rw [List.mem_singleton] at hb; rw [hb]; trivial
 | t :: ts,l,⟨c,h1,h2,h3⟩,b,hb=>by
  subst h1
  obtain⟨x,hx,hb⟩:=List.mem_flatMap.1 hb
  obtain⟨b',hb',rfl⟩:=List.mem_map.1 hb
  have:=h2.ok x hx
  exact⟨this.1,this.2.1,this.2.2.1,CF_vR ts (h3 x hx) b' hb'⟩
theorem vR_ok {b:Bx} (h:vR tops5 (toL b)):BOk b:=by
 obtain⟨a0,a1,a2,b0,b1,b2,c0,c1,c2,d0,d1,d2,e0,e1,e2,_⟩:=h
 exact⟨⟨a0,a1,a2⟩,⟨b0,b1,b2⟩,⟨c0,c1,c2⟩,⟨d0,d1,d2⟩,⟨e0,e1,e2⟩⟩
theorem CFb.ok {l:List Bx} (h:CFb l):∀ b∈l,BOk b:=fun b hb=>vR_ok (CF_vR _ h _ (List.mem_map_of_mem hb))
theorem Zqz {l:List RL} (h:∀ b∈l,b.length=5):(l.map (pad 0)).map toL=l:=by
 rw [List.map_map]
 conv=>rhs; rw [← List.map_id l]
 exact List.map_congr_left fun b hb=>Zrg (h b hb)
theorem Zhc:∀ t∈tops5,0≤t:=by unfold tops5; simp
theorem Zr3 (op:Bool→Bool→Bool) (a b:List Bx):∃ l:List Bx,Is op tops5 (a.map toL) (b.map toL) (l.map toL):=by
 obtain⟨l,h⟩:=Is.exists_ op tops5 Zhc (a.map toL) (b.map toL)
 refine⟨l.map (pad 0),?_⟩
 rw [Zqz (fun b hb=>CF_len _ h.cf b hb)]
 exact h
structure Can (op:Bool→Bool→Bool) (a b l:List Bx):Prop where
 cf:CFb l
 mem:∀ p,vP tops5 p→mem l p=op (mem a p) (mem b p)
theorem Can.is {op:Bool→Bool→Bool} {a b l:List Bx} (h:Can op a b l):Is op tops5 (a.map toL) (b.map toL) (l.map toL):=⟨h.cf,h.mem⟩
theorem Zq0 {l l':List Bx} (h:l.map toL=l'.map toL):l=l':=by
 have:=congrArg (List.map ofL) h
 rw [List.map_map,List.map_map] at this
 have e:(ofL ∘ toL)=id:=funext fun b=>Zkt b
 rw [e,List.map_id,List.map_id] at this
 exact this
theorem CFb.inj {l l':List Bx} (h:CFb l) (h':CFb l') (e:∀ p,vP tops5 p→mem l p=mem l' p):l=l':=Zq0 (CF_inj _ h h' e)
theorem Can.inj {op:Bool→Bool→Bool} {a b l l':List Bx} (h:Can op a b l) (h':Can op a b l'):l=l':=h.cf.inj h'.cf fun p hp=>by rw [h.mem p hp,h'.mem p hp]
theorem Can.ex (op:Bool→Bool→Bool) (a b:List Bx):∃ l,Can op a b l:=by
 obtain⟨l,h⟩:=Zr3 op a b
 exact⟨l,h.cf,h.mem⟩
theorem CFb.nil:CFb []:=CF_nil _
theorem Zrj (p:List Int):mem [] p=false:=rfl
theorem Zup (l:List Bx):(l.map toL).map (pad 0)=l:=by
 rw [List.map_map]
 have e:(pad 0 ∘ toL)=id:=funext fun b=>Zkt b
 rw [e,List.map_id]
theorem Zsr {op:Bool→Bool→Bool} {C:Nat→Int→List Bx→List Bx→Int→Option (List Bx × Bool)} (hC:Canon op C) {a b l:List Bx} (hl:a.length + b.length≤400000) (ha:∀ x∈a,BOk x) (hb:∀ x∈b,BOk x) (h:Can op a b l) :
  C fuel 0 a b 4096=some (if l.length≤4096 then (l,true) else ([],false)):=by
 have:=Ztv hC (m:=4096) (by omega) (by omega) 5 0 fuel a b (l.map toL) (by omega) (by unfold fuel; omega) hl ha hb h.is
 rw [show ((0:Nat):Int)=0 from rfl,show ((4096:Nat):Int)=4096 from rfl] at this
 rw [this]
 unfold capd
 rw [List.length_map,Zup]
def capB (l:List Bx):List Bx × Int:=if l.length≤4096 then (l,0) else ([],3)
theorem Zn8 {a b l:List Bx} (hl:a.length + b.length≤400000) (ha:∀ x∈a,BOk x) (hb:∀ x∈b,BOk x) (h:Can (fun x y=>x || y) a b l):Zbj a b=some (capB l):=by
 unfold Zbj capB
 rw [Zsr Zqe hl ha hb h]
 by_cases h:l.length≤4096
 ·rw [if_pos h,if_pos h]; rfl
 ·rw [if_neg h,if_neg h]; rfl
end Go.AM
set_option maxRecDepth 100000
namespace Go.AM
open Go
theorem Zov {a b:Zb}:Zdc a b=true ↔ a=b:=by rw [eq_rg]; simp
structure RunTo (f:Nat) (l:List Bx) (r:Zb) (n:Nat):Prop where
 h1:n≤l.length
 eq:∀ i (h:i<l.length),i<n→(l[i]).get (f:Int)=r
 ne:∀(h:n<l.length),(l[n]).get (f:Int) ≠ r
theorem Ztw {f:Nat} (hf:f<5) {l:List Bx} (hl:l.length≤1000000) {b0:Bx} (h0:l[0]? = some b0):∀(k j n:Nat),l.length - j=k→k<n→1≤j→j≤l.length→(∀ i (h:i<l.length),i<j→(l[i]).get (f:Int)=b0.get (f:Int)) →
  ∃ N:Nat,Zb3 (f:Int) l n (j:Int)=some (N:Int)∧j≤N∧RunTo f l (b0.get (f:Int)) N:=by
 intro k
 have hpos:0<l.length:=by
  rcases l with _ | ⟨x,l⟩
  ·simp at h0
  ·simp
 have i0:idx l (0:Int)=some b0:=by rw [show (0:Int)=((0:Nat):Int) from rfl,Zct hpos,← List.getElem?_eq_getElem,h0]
 induction k with
 | zero=>
  intro j n hk hn h1 hj he
  cases n with
  | zero=>omega
  | succ n=>
  have hd:decide ((j:Int)<(l.length:Int))=false:=by simp; omega
  rw [Zb3,hd]
  exact⟨j,rfl,Nat.le_refl _,hj,he,fun h=>by omega⟩
 | succ k ih=>
  intro j n hk hn h1 hj he
  cases n with
  | zero=>omega
  | succ n=>
  have hjl:j<l.length:=by omega
  have hd:decide ((j:Int)<(l.length:Int))=true:=by simp; omega
  rw [Zb3,hd]
  simp only [Option.bind_some,if_true,Zct hjl,i0]
  rw [if_pos ⟨by omega,by omega⟩,if_pos ⟨by omega,by omega⟩]
  simp only [Option.bind_some]
  by_cases hq:(l[j]).get (f:Int)=b0.get (f:Int)
  ·rw [if_pos (Zov.2 hq),wsucc (by omega)]
   obtain⟨N,e,g1,g2⟩:=ih (j + 1) n (by omega) (by omega) (by omega) (by omega) (fun i h hi=>by
    rcases Nat.lt_or_eq_of_le (Nat.lt_succ_iff.1 hi) with h2 | h2
    ·exact he i h h2
    ·subst h2; exact hq)
   exact⟨N,e,by omega,g2⟩
  ·rw [if_neg (fun h=>hq (Zov.1 h))]
   exact⟨j,rfl,Nat.le_refl _,hj,he,fun _=>hq⟩
theorem Zss {f:Nat} (hf:f<5) {l:List Bx} {r:Zb} {n:Nat} (hn:1≤n) (h:RunTo f l r n) (hl:l ≠ []) :
  l.map (sf f)=((l.take n).map (sf (f + 1))).map (r :: ·)++(l.drop n).map (sf f)∧(l.take n).map (sf (f + 1)) ≠ []∧∀ b,((l.drop n).map (sf f)).head? = some b→∃ r' b',b=r' :: b'∧r' ≠ r:=by
 refine⟨?_,?_,?_⟩
 ·conv=>lhs; rw [← List.take_append_drop n l,List.map_append]
  congr 1
  rw [List.map_map]
  refine List.map_congr_left fun b hb=>?_
  obtain⟨i,hi,rfl⟩:=List.getElem_of_mem hb
  have hi2:i<n∧i<l.length:=by rw [List.length_take] at hi; omega
  rw [List.getElem_take,Zh1 hf,h.eq i hi2.2 hi2.1]
  rfl
 ·intro e
  have:=congrArg List.length e
  simp only [List.length_map,List.length_take,List.length_nil] at this
  have:0<l.length:=List.length_pos_iff.2 hl
  omega
 ·intro b hb
  by_cases hnl:n<l.length
  ·rw [List.drop_eq_getElem_cons hnl] at hb
   simp only [List.map_cons,List.head?_cons,Option.some.injEq] at hb
   exact⟨_,_,by rw [← hb,Zh1 hf],h.ne hnl⟩
  ·rw [List.drop_eq_nil_of_le (by omega)] at hb
   simp at hb
def zpre (f:Nat) (b:Bx):Bx:=pad (f + 1) (sf (f + 1) b)
theorem Zst {f:Nat} (hf:f<5) {v:List Bx} {i:Nat} (hi:i<v.length):Zbd (f:Int) (i:Int) fuel v 0=some (v.set i (zpre f v[i])):=by
 obtain⟨n,hn⟩:∃ n,fuel=n + 6:=⟨fuel - 6,by unfold fuel; omega⟩
 rw [hn]
 have stop:∀(k:Nat) (m:Nat) (w:List Bx),f<k→Zbd (f:Int) (i:Int) (m + 1) w (k:Int)=some w:=by
  intro k m w hk
  rw [Zbd,if_neg (by simp; omega)]
 have nx:∀(k:Nat) (m:Nat) (x:Bx),k<5→k≤f→Zbd (f:Int) (i:Int) (m + 1) (v.set i x) (k:Int)=Zbd (f:Int) (i:Int) m (v.set i (x.set (k:Int) zr)) ((k + 1:Nat):Int):=by
  intro k m x hk hkf
  rw [Zbd,if_pos (by simp; omega),Zct (show i<(v.set i x).length by rw [List.length_set]; exact hi),List.getElem_set_self]
  simp only [Option.bind_some,Int.toNat_natCast]
  rw [if_pos ⟨by omega,by omega⟩,wsucc (by omega),List.set_set]
  rfl
 have first:v=v.set i v[i]:=(List.set_getElem_self hi).symm
 conv=>lhs; rw [first]
 rw [show (0:Int)=((0:Nat):Int) from rfl]
 rcases fiveN hf with rfl | rfl | rfl | rfl | rfl
 ·rw [nx 0 _ _ (by omega) (by omega),stop _ _ _ (by omega)]; rfl
 ·rw [nx 0 _ _ (by omega) (by omega),nx 1 _ _ (by omega) (by omega),stop _ _ _ (by omega)]; rfl
 ·rw [nx 0 _ _ (by omega) (by omega),nx 1 _ _ (by omega) (by omega),nx 2 _ _ (by omega) (by omega),stop _ _ _ (by omega)]; rfl
 ·rw [nx 0 _ _ (by omega) (by omega),nx 1 _ _ (by omega) (by omega),nx 2 _ _ (by omega) (by omega),nx 3 _ _ (by omega) (by omega),stop _ _ _ (by omega)]; rfl
 ·rw [nx 0 _ _ (by omega) (by omega),nx 1 _ _ (by omega) (by omega),nx 2 _ _ (by omega) (by omega),nx 3 _ _ (by omega) (by omega),nx 4 _ _ (by omega) (by omega),stop _ _ _ (by omega)]; rfl
def stepN {α:Type} (g:α→α) (s:List α) (i:Nat) (_:α):List α:=match s[i]? with
 | some x=>s.set i (g x)
 | none=>s
theorem Zni {α:Type} (g:α→α):∀(l pre:List α),foldI (stepN g) (pre++l) pre.length l=pre++l.map g
 | [],pre=>by simp [foldI]
 | x :: l,pre=>by
  have e:foldI (stepN g) (pre++x :: l) pre.length (x :: l)=foldI (stepN g) (stepN g (pre++x :: l) pre.length x) (pre.length + 1) l:=rfl
  rw [e]
  have h1:(pre++x :: l)[pre.length]? = some x:=by rw [List.getElem?_append_right (Nat.le_refl _),Nat.sub_self]; rfl
  have h2:(pre++x :: l).set pre.length (g x)=(pre++[g x])++l:=by rw [List.set_append_right _ _ (Nat.le_refl _),Nat.sub_self]; simp
  have h3:stepN g (pre++x :: l) pre.length x=(pre++[g x])++l:=by unfold stepN; rw [h1]; exact h2
  rw [h3]
  have:=Zni g l (pre++[g x])
  rw [List.length_append,List.length_singleton] at this
  rw [this]
  simp
theorem Zsu {f:Nat} (hf:f<5) {l:List Bx} (hl:l.length≤2000000000):Zd9 (f:Int) l=some (l.map (zpre f)):=by
 unfold Zd9
 rw [if_pos (by unfold lim; omega)]
 have:=Zho (L:=Zci (f:Int) l) l (stepN (zpre f)) id (fun _ s=>s.length=l.length) (by omega) (fun n s i hi hs=>by
  rw [Zci]
  simp only [show ((i:Int)<(l.length:Int)) from by omega,decide_true,if_true,Option.bind_some,wsucc (by omega:i<1000000000001)]
  rw [Zst hf (show i<s.length by omega)]
  have h3:stepN (zpre f) s i l[i]=s.set i (zpre f s[i]):=by unfold stepN; rw [List.getElem?_eq_getElem (show i<s.length by omega)]
  rw [h3]
  exact⟨rfl,by rw [List.length_set]; exact hs⟩) (fun n s hs=>by rw [Zci]; simp) l rfl
 have h2:=Zni (zpre f) l []
 rw [List.nil_append,List.nil_append,List.length_nil] at h2
 rw [this.1,h2]
 rfl
def lastG (f:Nat):Option Cell→Zk
 | none=>Zd7
 | some x=>gr1 f x
theorem Zo6 {f:Nat} (hf:f<5) {z0:Int→List Bx→Option Bool}
  (hz:∀ l:List Bx,l.length≤1000000→(∀ x∈l,BOk x)→∃ r,z0 ((f + 1:Nat):Int) l=some r∧(r=true ↔ CF (tops5.drop (f + 1)) (l.map (sf (f + 1))))) :
  ∀(K n:Nat) (l:List Bx) (last:Option Cell),l.length≤K→K<n→l.length≤1000000→(∀ x∈l,BOk x)→(∀ y∈last,y.2 ≠ []∧y.2.length≤1000000∧0≤y.1.Hi∧y.1.Hi<4294967296∧∀ b∈y.2,b.length=5 - (f + 1)) →
  ∃ o,Zbl (f:Int) z0 n (lastG f last) l=some o∧((∃ c,l.map (sf f)=flt c∧Nx (topOf (f:Int)) (tops5.drop (f + 1)) last c)→∃ g,o=.inl g)∧(¬ (∃ c,l.map (sf f)=flt c∧Nx (topOf (f:Int)) (tops5.drop (f + 1)) last c)→o=.inr false):=by
 intro K
 induction K with
 | zero=>
  intro n l last hlK hn hl hok hlast
  have:l=[]:=List.length_eq_zero_iff.1 (by omega)
  subst this
  cases n with
  | zero=>omega
  | succ n=>
  rw [Zbl,if_neg (by simp)]
  exact⟨_,rfl,fun _=>⟨_,rfl⟩,fun h=>absurd ⟨[],rfl,Nx.nil ..⟩ h⟩
 | succ K ih=>
  intro n l last hlK hn hl hok hlast
  cases n with
  | zero=>omega
  | succ n=>
  cases hll:l with
  | nil=>
   rw [Zbl,if_neg (by simp)]
   exact⟨_,rfl,fun _=>⟨_,rfl⟩,fun h=>absurd ⟨[],rfl,Nx.nil ..⟩ h⟩
  | cons b0 l'=>
  have hne:l ≠ []:=by rw [hll]; exact List.cons_ne_nil _ _
  have hpos:0<l.length:=List.length_pos_iff.2 hne
  have h0:l[0]? = some b0:=by rw [hll]; rfl
  have i0:idx l (0:Int)=some b0:=by rw [show (0:Int)=((0:Nat):Int) from rfl,Zct hpos,← List.getElem?_eq_getElem,h0]
  obtain⟨N,e1,g1,g2⟩:=Ztw hf hl h0 (l.length - 1) 1 fuel rfl (by unfold fuel; omega) (Nat.le_refl _) (by omega) (fun i h hi=>by
   have:i=0:=by omega
   subst this
   rw [List.getElem?_eq_getElem h,Option.some.injEq] at h0
   rw [h0])
  rw [← hll]
  obtain⟨s1,s2,s3⟩:=Zss hf g1 g2 hne
  have hb0:BOk b0:=hok b0 (by rw [hll]; exact List.mem_cons_self ..)
  have hb0r:=hb0.at_ hf
  have htop:=topN hf
  rw [Zbl,if_pos (by simp; omega)]
  rw [show ((1:Nat):Int)=1 from rfl] at e1
  rw [e1]
  simp only [Option.bind_some,i0,Int.toNat_natCast,Int.toNat_zero,List.drop_zero]
  have hN:=g2.h1
  rw [if_pos ⟨by omega,by omega⟩,if_pos ⟨by omega,by omega,by omega⟩]
  have htl:(l.take N).length≤1000000:=by rw [List.length_take]; omega
  rw [Zsu hf (by omega)]
  simp only [Option.bind_some]
  rw [if_pos ⟨by omega,by omega,by omega⟩,wsucc (by omega)]
  obtain⟨rv,z1,z2⟩:=hz (l.take N) htl (fun x hx=>hok x (List.mem_of_mem_take hx))
  rw [z1]
  simp only [Option.bind_some]
  rw [s1]
  have hrun:=Nx.run (t:=topOf (f:Int)) (ts:=tops5.drop (f + 1)) (last:=last) (r:=b0.get (f:Int)) s2 s3
  rw [hrun]
  cases rv with
  | false=>
   simp only [Bool.not_false,if_true]
   have hncf:¬ CF (tops5.drop (f + 1)) ((l.take N).map (sf (f + 1))):=fun h=>by have:=z2.2 h; cases this
   exact⟨_,rfl,fun h=>absurd h.2.1 hncf,fun _=>rfl⟩
  | true=>
   simp only [Bool.not_true,Bool.false_eq_true,if_false]
   have hcf:=z2.1 rfl
   have hzl:∀ b∈(l.take N).map (sf (f + 1)),b.length=5 - (f + 1):=fun b hb=>by
    obtain⟨x,_,rfl⟩:=List.mem_map.1 hb
    exact sf_len (by omega) x
   have hzm:(l.take N).map (zpre f)=((l.take N).map (sf (f + 1))).map (pad (f + 1)):=by rw [List.map_map]; rfl
   have hgap:∃ og:Unit ⊕ Bool,(if decide (((lastG f last).f_rest.length:Int) > 0)=true then
      (if decide ((b0.get (f:Int)).Lo≤(lastG f last).f_values.Hi)=true then some true else
       (if ((b0.get (f:Int)).Lo == (IntKind.wrap .u32 ((lastG f last).f_values.Hi + (1:Int))))=true then
        (Za7 ((l.take N).map (zpre f)) (lastG f last).f_rest).bind fun(r223:Bool)=>
        some r223
        else some false).bind fun(v225:Bool)=>
       some v225
       ).bind fun(v227:Bool)=>
      if v227=true then
       (some (.inr false):Option (Unit ⊕ Bool))
      else
       some (.inl ())
     else
      some (.inl ()))=some og∧((∀ y∈last,gp y (b0.get (f:Int),(l.take N).map (sf (f + 1))))→og=.inl ())∧(¬ (∀ y∈last,gp y (b0.get (f:Int),(l.take N).map (sf (f + 1))))→og=.inr false):=by
    cases last with
    | none=>
     rw [if_neg (show ¬ decide (((lastG f none).f_rest.length:Int) > 0)=true from fun h=>by cases h)]
     exact⟨_,rfl,fun _=>rfl,fun h=>absurd (fun y hy=>by cases hy) h⟩
    | some y=>
     obtain⟨y1,y2,y3,y4,y5⟩:=hlast y rfl
     have hyl:0<y.2.length:=List.length_pos_iff.2 y1
     have hall:(∀ z∈some y,gp z (b0.get (f:Int),(l.take N).map (sf (f + 1)))) ↔ gp y (b0.get (f:Int),(l.take N).map (sf (f + 1))):=⟨fun h=>h y rfl,fun h z hz=>by cases hz; exact h⟩
     simp only [lastG,show (gr1 f y).f_rest=y.2.map (pad (f + 1)) from rfl,show (gr1 f y).f_values=y.1 from rfl,List.length_map]
     rw [if_pos (by simp; omega),hall]
     unfold gp
     by_cases c1:(b0.get (f:Int)).Lo≤y.1.Hi
     ·rw [if_pos (decide_eq_true c1)]
      simp only [Option.bind_some,if_true]
      exact⟨_,rfl,fun h=>by have:=h.1; omega,fun _=>rfl⟩
     ·rw [if_neg (by simpa using c1)]
      rw [wu32 (x:=y.1.Hi + 1) (by omega) (by omega)]
      by_cases c2:(b0.get (f:Int)).Lo=y.1.Hi + 1
      ·rw [if_pos (by simpa using c2),Zp8 (by rw [List.length_map]; omega),hzm]
       have hmi:=Zlq (f:=f + 1) (by omega) hzl y5
       simp only [Option.bind_some,decide_eq_true_eq,hmi]
       by_cases c3:(l.take N).map (sf (f + 1))=y.2
       ·rw [if_pos c3]
        exact⟨_,rfl,fun h=>absurd c3.symm (h.2 (by omega)),fun _=>rfl⟩
       ·rw [if_neg c3]
        exact⟨_,rfl,fun _=>rfl,fun h=>absurd ⟨by omega,fun _ h=>c3 h.symm⟩ h⟩
      ·rw [if_neg (by simpa using c2)]
       simp only [Option.bind_some,Bool.false_eq_true,if_false]
       exact⟨_,rfl,fun _=>rfl,fun h=>absurd ⟨by omega,fun h=>absurd h.symm c2⟩ h⟩
   obtain⟨og,og1,og2,og3⟩:=hgap
   rw [og1]
   by_cases hg:∀ y∈last,gp y (b0.get (f:Int),(l.take N).map (sf (f + 1)))
   ·rw [og2 hg]
    simp only [Option.bind_some]
    rw [if_pos ⟨by omega,by omega,by omega⟩,List.take_length]
    rw [show (Zk.mk (b0.get (f:Int)) ((l.take N).map (zpre f)))=lastG f (some (b0.get (f:Int),(l.take N).map (sf (f + 1)))) by rw [hzm]; rfl]
    obtain⟨o,o1,o2,o3⟩:=ih n (l.drop N) (some (b0.get (f:Int),(l.take N).map (sf (f + 1)))) (by rw [List.length_drop]; omega) (by omega) (by rw [List.length_drop]; omega) (fun x hx=>hok x (List.mem_of_mem_drop hx)) (fun y hy=>by
     cases hy
     refine⟨s2,by rw [List.length_map]; exact htl,by show 0≤(b0.get (f:Int)).Hi; omega,by show (b0.get (f:Int)).Hi<4294967296; omega,hzl⟩)
    refine⟨o,o1,fun h=>o2 h.2.2.2,fun h=>o3 fun h2=>h ⟨⟨by omega,by omega,by omega⟩,hcf,hg,h2⟩⟩
   ·rw [og3 hg]
    simp only [Option.bind_some]
    exact⟨_,rfl,fun h=>absurd h.2.2.1 hg,fun _=>rfl⟩
theorem Zr4:∀(k f nr:Nat) (l:List Bx),f + k=5→k<nr→l.length≤1000000→(∀ x∈l,BOk x)→∃ r,Zba nr (f:Int) l=some r∧(r=true ↔ CF (tops5.drop f) (l.map (sf f))):=by
 intro k
 induction k with
 | zero=>
  intro f nr l hf hn hl hok
  have:f=5:=by omega
  subst this
  cases nr with
  | zero=>omega
  | succ nr=>
  rw [Zba,if_pos (by decide)]
  refine⟨_,rfl,?_⟩
  show _ ↔ (l.map (sf 5)=[]∨l.map (sf 5)=[[]])
  rcases l with _ | ⟨x,_ | ⟨y,l⟩⟩
  ·simp
  ·exact⟨fun _=>Or.inr rfl,fun _=>by simp⟩
  ·constructor
   ·intro h; simp at h; omega
   ·rintro(h | h) <;> simp at h
 | succ k ih=>
  intro f nr l hf hn hl hok
  have hf5:f<5:=by omega
  cases nr with
  | zero=>omega
  | succ nr=>
  rw [Zba,if_neg (by simp; omega),Zos hf5,CF_iff]
  obtain⟨o,o1,o2,o3⟩:=Zo6 hf5 (z0:=Zba nr) (fun l hl hok=>ih (f + 1) nr l (by omega) (by omega) hl hok) l.length fuel l none (Nat.le_refl _) (by unfold fuel; omega) hl hok (fun y hy=>(by cases hy))
  rw [show lastG f none=Zd7 from rfl] at o1
  rw [o1]
  by_cases h:∃ c,l.map (sf f)=flt c∧Nx (topOf (f:Int)) (tops5.drop (f + 1)) none c
  ·obtain⟨g,rfl⟩:=o2 h
   exact⟨true,rfl,fun _=>h,fun _=>rfl⟩
  ·rw [o3 h]
   exact⟨false,rfl,fun h=>(by cases h),fun h2=>absurd h2 h⟩
structure VS (l:List Bx):Prop where
 len:l.length≤4096
 ok:∀ x∈l,BOk x
 cf:CFb l
theorem VS.of {l:List Bx} (h:CFb l) (hl:l.length≤4096):VS l:=⟨hl,h.ok,h⟩
theorem Zow {l:List Bx} (hin:∀ x∈l,BIn x):(l.filter vB).length=l.length ↔ ∀ x∈l,BOk x:=by
 rw [List.length_filter_eq_length_iff]
 exact⟨fun h x hx=>vB_ok (hin x hx) (h x hx),fun h x hx=>ok_vB (h x hx)⟩
theorem Zsv {l:List Bx} (hl:l.length≤1000000) (hin:∀ x∈l,BIn x):∃ r,Zdj l=some r∧(r=true ↔ VS l):=by
 unfold Zdj
 by_cases h1:l.length≤4096
 ·have hd:decide ((l.length:Int)≤4096)=true:=by simp; omega
  rw [hd]
  simp only [Option.bind_some,if_true]
  rw [Zou (by omega)]
  simp only [Option.bind_some]
  by_cases h2:∀ x∈l,BOk x
  ·have he:(((l.filter vB).length:Int) == (l.length:Int))=true:=by rw [(Zow hin).2 h2]; simp
   rw [he]
   simp only [if_true]
   obtain⟨r,e,g⟩:=Zr4 5 0 fuel l (by omega) (by unfold fuel; omega) hl h2
   rw [show ((0:Nat):Int)=0 from rfl] at e
   rw [e]
   refine⟨r,rfl,g.trans ⟨fun h=>⟨h1,h2,h⟩,fun h=>h.cf⟩⟩
  ·have he:(((l.filter vB).length:Int) == (l.length:Int))=false:=by
    have h3:¬ (l.filter vB).length=l.length:=fun h=>h2 ((Zow hin).1 h)
    simp only [beq_eq_false_iff_ne,ne_eq]
    omega
   rw [he]
   exact⟨false,rfl,fun h=>(by cases h),fun h=>absurd h.ok h2⟩
 ·have hd:decide ((l.length:Int)≤4096)=false:=by simp; omega
  rw [hd]
  exact⟨false,rfl,fun h=>(by cases h),fun h=>absurd h.len h1⟩
end Go.AM
set_option maxRecDepth 100000
namespace Go.AM
open Go
end Go.AM
set_option maxRecDepth 100000
namespace Go.AM
open Go
def sumL {α:Type} (f:α→Nat) (l:List α):Nat:=l.foldr (fun x n=>f x + n) 0
theorem Zc9 {α:Type} (f:α→Nat) (x:α) (l:List α):sumL f (x :: l)=f x + sumL f l:=rfl
theorem Zje {α:Type} (f g:α→Nat) (l:List α):sumL (fun x=>f x + g x) l=sumL f l + sumL g l:=by
 induction l with
 | nil=>rfl
 | cons x l ih=>rw [Zc9,Zc9,Zc9,ih]; omega
theorem Zuq {α:Type} {f g:α→Nat} {l:List α} (h:∀ x∈l,f x≤g x):sumL f l≤sumL g l:=by
 induction l with
 | nil=>exact Nat.le_refl _
 | cons x l ih=>
  rw [Zc9,Zc9]
  have:=h x (List.mem_cons_self ..)
  have:=ih fun y hy=>h y (List.mem_cons_of_mem _ hy)
  omega
theorem Zmf {α:Type} (k:Nat) (f:α→Nat) (l:List α):sumL (fun x=>k * f x) l=k * sumL f l:=by
 induction l with
 | nil=>rfl
 | cons x l ih=>rw [Zc9,Zc9,ih,Nat.mul_add]
theorem Zrk {α:Type} (p:α→Bool) (f:α→Nat) (l:List α):sumL (fun x=>if p x=true then f x else 0) l=sumL f (l.filter p):=by
 induction l with
 | nil=>rfl
 | cons x l ih=>
  rw [Zc9,ih,List.filter_cons]
  cases p x
  ·simp
  ·simp [Zc9]
theorem Znj {α:Type} (k:Nat) (l:List α):sumL (fun _=>k) l=l.length * k:=by
 induction l with
 | nil=>simp [sumL]
 | cons x l ih=>rw [Zc9,ih,List.length_cons,Nat.succ_mul]; omega
theorem Zur (c:List Cell):(flt c).length=sumL (fun x=>x.2.length) c:=by
 induction c with
 | nil=>rfl
 | cons x c ih=>rw [Zew,List.length_append,List.length_map,ih,Zc9]
theorem Zlr (x:Cell) (d:List Cell) (v:Int):(lk (x :: d) v).length=(if inR v x.1=true then x.2.length else 0) + (lk d v).length:=by
 rw [Ze5,List.length_append]
 cases inR v x.1 <;> simp
theorem sum_lk {M:Nat} (vs:List Int):∀(d:List Cell),(∀ x∈d,(vs.filter (inR · x.1)).length≤M)→sumL (fun v=>(lk d v).length) vs≤M * (flt d).length
 | [],_=>by
  have:sumL (fun v=>(lk ([]:List Cell) v).length) vs=0:=by
   rw [show (fun v:Int=>(lk ([]:List Cell) v).length)=fun _=>0 from rfl,Znj]; simp
  omega
 | x :: d,h=>by
  have e:(fun v=>(lk (x :: d) v).length)=fun v=>(if inR v x.1=true then x.2.length else 0) + (lk d v).length:=funext fun v=>Zlr x d v
  have ih:=sum_lk vs d fun y hy=>h y (List.mem_cons_of_mem _ hy)
  have hx:=h x (List.mem_cons_self ..)
  rw [e,Zje,Zrk (fun v=>inR v x.1),Znj,Zew,List.length_append,List.length_map,Nat.mul_add]
  have:=Nat.mul_le_mul_right x.2.length hx
  omega
theorem Zrl (vs:List Int) (d':List Cell):∀(d:List Cell),(∀ x∈d,∀ y∈d',((vs.filter (inR · x.1)).filter (inR · y.1)).length≤1)→sumL (fun v=>(lk d v).length * (lk d' v).length) vs≤(flt d).length * (flt d').length
 | [],_=>by
  have:sumL (fun v=>(lk ([]:List Cell) v).length * (lk d' v).length) vs=0:=by
   rw [show (fun v:Int=>(lk ([]:List Cell) v).length * (lk d' v).length)=fun v=>0 * (lk d' v).length from rfl,Zmf]; simp
  omega
 | x :: d,h=>by
  have e:(fun v=>(lk (x :: d) v).length * (lk d' v).length)=fun v=>(if inR v x.1=true then x.2.length * (lk d' v).length else 0) + (lk d v).length * (lk d' v).length:=funext fun v=>by
   rw [Zlr,Nat.add_mul]
   cases inR v x.1 <;> simp
  have ih:=Zrl vs d' d fun y hy=>h y (List.mem_cons_of_mem _ hy)
  have h1:=sum_lk (M:=1) (vs.filter (inR · x.1)) d' fun y hy=>h x (List.mem_cons_self ..) y hy
  rw [e,Zje,Zrk (fun v=>inR v x.1) (fun v=>x.2.length * (lk d' v).length),Zmf,Zew,List.length_append,List.length_map,Nat.add_mul]
  have:=Nat.mul_le_mul_left x.2.length h1
  rw [Nat.one_mul] at this
  omega
theorem Zox {l:List Int} (h:l.Pairwise (·<·)):l.Nodup:=h.imp fun h=>by omega
def ends2 (c:List Cell):List Int:=c.flatMap fun x=>[x.1.Lo,x.1.Hi + 1]
theorem Zsw (c:List Cell):(ends2 c).length=2 * c.length:=by
 induction c with
 | nil=>rfl
 | cons x c ih=>unfold ends2 at *; rw [List.flatMap_cons,List.length_append,ih]; simp; omega
theorem Zmg {t:Int} {c:List Cell} (h:Ord t c) {x:Cell} (hx:x∈c) {v:Int} (hv:v∈ends2 c) (hr:inR v x.1=true):v=x.1.Lo:=by
 rw [Zdm] at hr
 obtain⟨y,hy,hvy⟩:=List.mem_flatMap.1 hv
 have hxo:=h.ok x hx
 have hyo:=h.ok y hy
 obtain⟨i,hi,rfl⟩:=List.getElem_of_mem hx
 obtain⟨j,hj,rfl⟩:=List.getElem_of_mem hy
 have hp:=List.pairwise_iff_getElem.1 h.pw
 simp only [List.mem_cons,List.not_mem_nil,or_false] at hvy
 rcases Nat.lt_trichotomy i j with h1 | h1 | h1
 ·have:=(hp i j hi hj h1).1
  omega
 ·subst h1; omega
 ·have:=(hp j i hj hi h1).1
  omega
theorem Zrm {t:Int} {c:List Cell} (h:Ord t c) {v:Int} (hv:¬ v∈ends2 c):lk c v=lk c (v - 1):=by
 have key:∀ x∈c,x.1.Lo ≠ v∧x.1.Hi + 1 ≠ v:=fun x hx=>⟨fun e=>hv (List.mem_flatMap.2 ⟨x,hx,by simp [e]⟩),fun e=>hv (List.mem_flatMap.2 ⟨x,hx,by simp [e]⟩)⟩
 clear h hv
 induction c with
 | nil=>rfl
 | cons x c ih=>
  rw [Ze5,Ze5,ih fun y hy=>key y (List.mem_cons_of_mem _ hy)]
  have:=key x (List.mem_cons_self ..)
  have e:inR v x.1=inR (v - 1) x.1:=by rw [Bool.eq_iff_iff,Zdm,Zdm]; omega
  rw [e]
theorem Znk {op:Bool→Bool→Bool} (hff:op false false=false):∀(ts:List Int) {a b l:List RL},CF ts a→CF ts b→Is op ts a b l→l.length≤4 * ts.length * (a.length * b.length) + a.length + b.length
 | [],a,b,l,ha,hb,h=>by
  have hm:=h.mem [] trivial
  rcases ha with rfl | rfl <;> rcases hb with rfl | rfl <;> rcases h.cf with rfl | rfl <;> simp [mS,mB,hff] at hm ⊢
 | t :: ts,a,b,l,ha,hb,h=>by
  obtain⟨ca,rfl,hao,hac⟩:=ha
  obtain⟨cb,rfl,hbo,hbc⟩:=hb
  obtain⟨c,rfl,ho,hc⟩:=h.cf
  have hat:∀ v,0≤v→v≤t→Is op ts (lk ca v) (lk cb v) (lk c v):=fun v h0 h1=>by
   have:=Is.at_ ho hc h h0 h1
   rw [Zhb,Zhb] at this
   exact this
  have hvs:(c.map (·.1.Lo)).Pairwise (·<·):=by
   rw [List.pairwise_map]
   refine List.Pairwise.imp_of_mem ?_ ho.pw
   intro x y hx _ hg
   have:=ho.ok x hx
   have:=hg.1
   omega
  have hin:∀ v∈c.map (·.1.Lo),v∈ends2 ca∨v∈ends2 cb:=by
   intro v hv
   obtain⟨x,hx,rfl⟩:=List.mem_map.1 hv
   have hxo:=ho.ok x hx
   apply Classical.byContradiction
   intro hn
   have h1:¬ x.1.Lo∈ends2 ca:=fun h=>hn (Or.inl h)
   have h2:¬ x.1.Lo∈ends2 cb:=fun h=>hn (Or.inr h)
   have e1:=Zrm hao h1
   have e2:=Zrm hbo h2
   have hx1:lk c x.1.Lo=x.2:=lk_mem ho hx (Int.le_refl _) hxo.2.1
   have g1:=hat x.1.Lo hxo.1 (by omega)
   by_cases h0:x.1.Lo=0
   ·rw [e1,e2,lk_out hao (by omega),lk_out hbo (by omega)] at g1
    have:lk c x.1.Lo=[]:=g1.inj ⟨CF_nil _,fun p _=>by rw [mS_nil,hff]⟩
    rw [hx1] at this
    exact hxo.2.2.2 this
   ·have g2:=hat (x.1.Lo - 1) (by omega) (by omega)
    rw [e1,e2] at g1
    have e3:=g1.inj g2
    rw [hx1] at e3
    obtain⟨y,hy,h3,h4⟩:=Zks (c:=c) (v:=x.1.Lo - 1) (by rw [← e3]; exact hxo.2.2.2)
    rw [lk_mem ho hy h3 h4] at e3
    obtain⟨i,hi,rfl⟩:=List.getElem_of_mem hx
    obtain⟨j,hj,rfl⟩:=List.getElem_of_mem hy
    have hp:=List.pairwise_iff_getElem.1 ho.pw
    rcases Nat.lt_trichotomy i j with h5 | h5 | h5
    ·have:=(hp i j hi hj h5).1; omega
    ·subst h5; omega
    ·have hg:=hp j i hj hi h5
     have:=hg.1
     exact hg.2 (by omega) e3.symm
  generalize hV:c.map (·.1.Lo)=vs at hvs hin
  have cnt:∀ {d d':List Cell},Ord t d→(∀ v∈vs,v∈ends2 d∨v∈ends2 d')→∀ x∈d,(vs.filter (inR · x.1)).length≤2 * d'.length + 1:=by
   intro d d' hd hdv x hx
   have hs:(vs.filter (inR · x.1)) ⊆ x.1.Lo :: ends2 d':=by
    intro v hv
    obtain⟨h1,h2⟩:=List.mem_filter.1 hv
    rcases hdv v h1 with h3 | h3
    ·rw [Zmg hd hx h3 h2]; exact List.mem_cons_self ..
    ·exact List.mem_cons_of_mem _ h3
   have:=List.Nodup.length_le_of_subset (Zox (hvs.filter _)) hs
   rw [List.length_cons,Zsw] at this
   exact this
  have s1:=sum_lk vs ca (cnt hao hin)
  have s2:=sum_lk vs cb (cnt hbo fun v hv=>(hin v hv).symm)
  have s3:=Zrl vs cb ca (fun x hx y hy=>by
   have hs:((vs.filter (inR · x.1)).filter (inR · y.1)) ⊆ [max x.1.Lo y.1.Lo]:=by
    intro v hv
    obtain⟨h1,h2⟩:=List.mem_filter.1 hv
    obtain⟨h3,h4⟩:=List.mem_filter.1 h1
    have h2':=Zdm.1 h2
    have h4':=Zdm.1 h4
    rw [List.mem_singleton]
    rcases hin v h3 with h5 | h5
    ·have:=Zmg hao hx h5 h4; omega
    ·have:=Zmg hbo hy h5 h2; omega
   have:=List.Nodup.length_le_of_subset (Zox ((hvs.filter _).filter _)) hs
   simpa using this)
  have total:(flt c).length≤sumL (fun v=>4 * ts.length * ((lk ca v).length * (lk cb v).length) + (lk ca v).length + (lk cb v).length) vs:=by
   rw [Zur,← hV]
   have e:∀(d:List Cell) (f:Int→Nat),sumL f (d.map (·.1.Lo))=sumL (fun x=>f x.1.Lo) d:=by
    intro d f
    induction d with
    | nil=>rfl
    | cons x d ih=>rw [List.map_cons,Zc9,Zc9,ih]
   rw [e]
   refine Zuq fun x hx=>?_
   have hxo:=ho.ok x hx
   have g1:=hat x.1.Lo hxo.1 (by omega)
   rw [lk_mem ho hx (Int.le_refl _) hxo.2.1] at g1
   exact Znk hff ts (CF_lk hao hac _) (CF_lk hbo hbc _) g1
  rw [Zje,Zje,Zmf] at total
  have la:=hao.len
  have lb:=hbo.len
  have m3:=Nat.mul_le_mul_left (4 * ts.length) s3
  have n1:(2 * cb.length + 1) * (flt ca).length≤(2 * (flt cb).length + 1) * (flt ca).length:=Nat.mul_le_mul_right _ (by omega)
  have n2:(2 * ca.length + 1) * (flt cb).length≤(2 * (flt ca).length + 1) * (flt cb).length:=Nat.mul_le_mul_right _ (by omega)
  rw [Nat.add_mul,Nat.one_mul] at n1 n2
  have c1:2 * (flt cb).length * (flt ca).length=2 * ((flt ca).length * (flt cb).length):=by rw [Nat.mul_assoc,Nat.mul_comm (flt cb).length]
  have c2:2 * (flt ca).length * (flt cb).length=2 * ((flt ca).length * (flt cb).length):=by rw [Nat.mul_assoc]
  have n1':(2 * cb.length + 1) * (flt ca).length≤(2 * (flt cb).length) * (flt ca).length + (flt ca).length:=by
   have:=Nat.mul_le_mul_right (flt ca).length (show 2 * cb.length + 1≤2 * (flt cb).length + 1 by omega)
   rw [Nat.add_mul (2 * (flt cb).length),Nat.one_mul] at this
   exact this
  have n2':(2 * ca.length + 1) * (flt cb).length≤(2 * (flt ca).length) * (flt cb).length + (flt cb).length:=by
   have:=Nat.mul_le_mul_right (flt cb).length (show 2 * ca.length + 1≤2 * (flt ca).length + 1 by omega)
   rw [Nat.add_mul (2 * (flt ca).length),Nat.one_mul] at this
   exact this
  rw [c1] at n1'
  rw [c2] at n2'
  have fin:4 * (t :: ts).length * ((flt ca).length * (flt cb).length)=4 * ts.length * ((flt ca).length * (flt cb).length) + 4 * ((flt ca).length * (flt cb).length):=by
   rw [List.length_cons,Nat.mul_add,Nat.add_mul]
  omega
theorem Can.size {op:Bool→Bool→Bool} (hff:op false false=false) {a b l:List Bx} (ha:CFb a) (hb:CFb b) (h:Can op a b l):l.length≤20 * (a.length * b.length) + a.length + b.length:=by
 have:=Znk hff tops5 ha hb h.is
 rw [List.length_map,List.length_map,List.length_map] at this
 exact this
end Go.AM
set_option maxRecDepth 100000
namespace Go.AM
open Go
noncomputable def can (op:Bool→Bool→Bool) (a b:List Bx):List Bx:=(Can.ex op a b).choose
theorem Zjf (op:Bool→Bool→Bool) (a b:List Bx):Can op a b (can op a b):=(Can.ex op a b).choose_spec
theorem Can.eq {op:Bool→Bool→Bool} {a b l:List Bx} (h:Can op a b l):can op a b=l:=(Zjf op a b).inj h
def oO (x y:Bool):Bool:=x || y
theorem ok_vR {b:Bx} (h:BOk b):vR tops5 (toL b):=
 ⟨h.h0.h0,h.h0.h1,h.h0.h2,h.h1.h0,h.h1.h1,h.h1.h2,h.h2.h0,h.h2.h1,h.h2.h2,h.h3.h0,h.h3.h1,h.h3.h2,h.h4.h0,h.h4.h1,h.h4.h2,trivial⟩
noncomputable def mkF:List Bx→List Bx→List Bx × Int
 | s,[]=>(s,0)
 | s,b :: l=>if (can oO s [b]).length≤4096 then mkF (can oO s [b]) l else ([],3)
noncomputable def mk (l:List Bx):List Bx × Int:=mkF [] (l.filter vB)
theorem combO {a b:List Bx} (hl:a.length + b.length≤400000) (ha:∀ x∈a,BOk x) (hb:∀ x∈b,BOk x):Zbj a b=some (capB (can oO a b)):=Zn8 hl ha hb (Zjf oO a b)
theorem Zus (r:List Bx) (hr:r.length≤1000000) (hok:∀ x∈r,BOk x):∀(K i n:Nat) (s:List Bx),r.length - i=K→K<n→VS s→i≤r.length→∃ o,Zcl r n s (i:Int)=some o∧mkF s (r.drop i)=match o with
   | .inl v=>(v,0)
   | .inr z=>z:=by
 intro K
 induction K with
 | zero=>
  intro i n s hK hn hs hi
  cases n with
  | zero=>omega
  | succ n=>
  rw [Zcl,if_neg (by simp; omega),List.drop_eq_nil_of_le (by omega)]
  exact⟨_,rfl,rfl⟩
 | succ K ih=>
  intro i n s hK hn hs hi
  cases n with
  | zero=>omega
  | succ n=>
  have hil:i<r.length:=by omega
  have hb:=hok _ (List.getElem_mem hil)
  have hsl:=hs.len
  rw [Zcl,if_pos (by simp; omega),Zct hil]
  simp only [Option.bind_some]
  rw [combO (by simp; omega) hs.ok (fun x hx=>by rw [List.mem_singleton] at hx; rw [hx]; exact hb)]
  rw [List.drop_eq_getElem_cons hil]
  simp only [Option.bind_some,capB,mkF]
  by_cases h:(can oO s [r[i]]).length≤4096
  ·rw [if_pos h,if_pos h]
   simp only [bne_self_eq_false,Bool.false_eq_true,if_false]
   rw [wsucc (by omega)]
   exact ih (i + 1) n _ (by omega) (by omega) (VS.of (Zjf oO s [r[i]]).cf h) (by omega)
  ·rw [if_neg h,if_neg h]
   exact⟨_,rfl,rfl⟩
theorem VS.nil:VS []:=⟨by simp,fun _ h=>(by cases h),CFb.nil⟩
theorem Ztx {l:List Bx} (hl:l.length≤1000000) (hin:∀ x∈l,BIn x):Zec l=some (mk l):=by
 unfold Zec
 rw [Zou (by omega)]
 simp only [Option.bind_some]
 have hfl:=List.length_filter_le vB l
 obtain⟨o,e,g⟩:=Zus (l.filter vB) (by omega) (fun x hx=>by
  obtain⟨h1,h2⟩:=List.mem_filter.1 hx
  exact vB_ok (hin x h1) h2) _ 0 fuel [] rfl (by unfold fuel; omega) VS.nil (by omega)
 rw [show ((0:Nat):Int)=0 from rfl] at e
 rw [e]
 rw [List.drop_zero] at g
 unfold mk
 rw [g]
 cases o <;> rfl
noncomputable def vSb (l:List Bx):Bool:=@decide (VS l) (Classical.propDecidable _)
theorem Zrn {l:List Bx}:vSb l=true ↔ VS l:=by unfold vSb; exact @decide_eq_true_iff _ (Classical.propDecidable _)
theorem Zut {r:Bool} {p:Prop} {q:Bool} (h1:r=true ↔ p) (h2:q=true ↔ p):r=q:=by
 rw [Bool.eq_iff_iff,h1,h2]
theorem pVal {l:List Bx} (hl:l.length≤300000) (hin:∀ x∈l,BIn x):Zdj l=some (vSb l):=by
 obtain⟨r,e,g⟩:=Zsv (by omega) hin
 rw [e,Zut g Zrn]
noncomputable def st (l:List Bx):List Bx × Int:=if vSb l=true then (l,0) else mk l
theorem Zro (a b:List Bx) (p:List Int):mem (a++b) p=(mem a p || mem b p):=by unfold mem; rw [List.map_append,mS_app]
structure SetOr (r:List Bx × Int):Prop where
 vs:VS r.1
 err:r.2=0∨r=([],3)
theorem mkF_ok:∀(l s:List Bx),VS s→SetOr (mkF s l)∧((mkF s l).2=0→∀ p,vP tops5 p→mem (mkF s l).1 p=(mem s p || mem l p))
 | [],s,hs=>⟨⟨hs,Or.inl rfl⟩,fun _ p _=>by rw [Zrj,Bool.or_false]; rfl⟩
 | b :: l,s,hs=>by
  simp only [mkF]
  by_cases h:(can oO s [b]).length≤4096
  ·rw [if_pos h]
   have hC:=Zjf oO s [b]
   obtain⟨g1,g2⟩:=mkF_ok l (can oO s [b]) (VS.of hC.cf h)
   refine⟨g1,fun h0 p hp=>?_⟩
   rw [g2 h0 p hp,hC.mem p hp,show b :: l=[b]++l from rfl,Zro [b] l,oO,Bool.or_assoc]
  ·rw [if_neg h]
   exact⟨⟨VS.nil,Or.inr rfl⟩,fun h=>by cases h⟩
theorem st_ok (l:List Bx):SetOr (st l)∧((st l).2=0→∀ p,vP tops5 p→mem (st l).1 p=mem (l.filter vB) p):=by
 unfold st
 by_cases h:vSb l=true
 ·rw [if_pos h]
  have hv:=Zrn.1 h
  refine⟨⟨hv,Or.inl rfl⟩,fun _ p _=>?_⟩
  rw [List.filter_eq_self.2 fun x hx=>ok_vB (hv.ok x hx)]
 ·rw [if_neg h]
  obtain⟨g1,g2⟩:=mkF_ok (l.filter vB) [] VS.nil
  exact⟨g1,fun h0 p hp=>by unfold mk; rw [g2 h0 p hp,Zrj,Bool.false_or]⟩
theorem SetOr.three {r:List Bx × Int} (h:SetOr r) (hr:r.2 ≠ 0):r=([],3):=h.err.resolve_left hr
end Go.AM
set_option maxRecDepth 100000
namespace Go.AM
open Go
def wd (r:Zb):Int:=r.Hi - r.Lo + 1
def vol:RL→Int
 | []=>1
 | r :: b=>wd r * vol b
def V:List RL→Int
 | []=>0
 | b :: l=>vol b + V l
def bel:RL→List Int→Int
 | r :: b,x :: h=>(if r.Lo<x then vol b * min (x - r.Lo) (wd r) else 0) + (if inR x r=true then bel b h else 0)
 | _,_=>0
def R:List RL→List Int→Int
 | [],_=>0
 | b :: l,h=>bel b h + R l h
theorem V_app (a b:List RL):V (a++b)=V a + V b:=by
 induction a with
 | nil=>simp [V]
 | cons x a ih=>simp only [List.cons_append,V,ih]; omega
theorem R_app (a b:List RL) (h:List Int):R (a++b) h=R a h + R b h:=by
 induction a with
 | nil=>simp [R]
 | cons x a ih=>simp only [List.cons_append,R,ih]; omega
theorem V_map (r:Zb) (l:List RL):V (l.map (r :: ·))=wd r * V l:=by
 induction l with
 | nil=>simp [V]
 | cons x a ih=>simp only [List.map_cons,V,ih,vol,Int.mul_add]
theorem R_map (r:Zb) (l:List RL) (x:Int) (h:List Int):R (l.map (r :: ·)) (x :: h)=(if r.Lo<x then V l * min (x - r.Lo) (wd r) else 0) + (if inR x r=true then R l h else 0):=by
 induction l with
 | nil=>simp [R,V]
 | cons b a ih=>
  simp only [List.map_cons,R,ih,bel,V,Int.add_mul]
  split <;> split <;> omega
def sm (f:Nat→Int):Nat→Int
 | 0=>0
 | n + 1=>sm f n + f n
theorem Zqf {f g:Nat→Int}:∀ {n:Nat},(∀ i,i<n→f i=g i)→sm f n=sm g n
 | 0,_=>rfl
 | n + 1,h=>by rw [sm,sm,h n (by omega),Zqf fun i hi=>h i (by omega)]
theorem sm_add (f g:Nat→Int):∀ n,sm (fun i=>f i + g i) n=sm f n + sm g n
 | 0=>rfl
 | n + 1=>by rw [sm,sm,sm,sm_add f g n]; omega
theorem Zrp:∀ n,sm (fun _=>0) n=0
 | 0=>rfl
 | n + 1=>by rw [sm,Zrp n]; rfl
theorem Zko {f:Nat→Int}:∀ {n:Nat},(∀ i,i<n→0≤f i)→0≤sm f n
 | 0,_=>by rw [sm]; omega
 | n + 1,h=>by
  have:=Zko (n:=n) fun i hi=>h i (by omega)
  have:=h n (by omega)
  rw [sm]; omega
theorem Zrq {f:Nat→Int} (h:∀ i,0≤f i) {m n:Nat} (hmn:m≤n):sm f m≤sm f n:=by
 induction n with
 | zero=>rw [show m=0 by omega]; omega
 | succ n ih=>
  by_cases e:m=n + 1
  ·rw [e]; omega
  ·have:=ih (by omega)
   have:=h n
   rw [sm]; omega
theorem sm_ind (k:Int) {r:Zb} (h0:0≤r.Lo) (h1:r.Lo≤r.Hi):∀ n:Nat,sm (fun v=>if inR (v:Int) r=true then k else 0) n=if r.Lo<n then k * min ((n:Int) - r.Lo) (wd r) else 0
 | 0=>by rw [sm,if_neg (by omega)]
 | n + 1=>by
  rw [sm,sm_ind k h0 h1 n]
  simp only [Zdm]
  unfold wd
  by_cases a:r.Lo<n
  ·rw [if_pos a,if_pos (show r.Lo<((n + 1:Nat):Int) by omega)]
   by_cases b:(n:Int)≤r.Hi
   ·rw [if_pos ⟨by omega,b⟩,Int.min_eq_left (by omega),Int.min_eq_left (by omega),show ((n + 1:Nat):Int) - r.Lo=((n:Int) - r.Lo) + 1 by omega,Int.mul_add,Int.mul_one]
   ·rw [if_neg (by omega),Int.min_eq_right (by omega),Int.min_eq_right (by omega),Int.add_zero]
  ·rw [if_neg a]
   by_cases b:(n:Int)=r.Lo
   ·rw [if_pos (by omega),if_pos (by omega),Int.min_eq_left (by omega),show ((n + 1:Nat):Int) - r.Lo=1 by omega,Int.mul_one,Int.zero_add]
   ·rw [if_neg (by omega),if_neg (by omega)]; rfl
theorem Zsx (x:Cell) (c:List Cell) (v:Int):V (lk (x :: c) v)=(if inR v x.1=true then V x.2 else 0) + V (lk c v):=by
 rw [Ze5,V_app]
 split <;> rfl
theorem Zsy (x:Cell) (c:List Cell) (v:Int) (h:List Int):R (lk (x :: c) v) h=(if inR v x.1=true then R x.2 h else 0) + R (lk c v) h:=by
 rw [Ze5,R_app]
 split <;> rfl
def A (c:List Cell) (n:Nat):Int:=sm (fun v=>V (lk c (v:Int))) n
theorem A_nil (n:Nat):A [] n=0:=by unfold A; rw [← Zrp n]; rfl
theorem A_cons {x:Cell} (c:List Cell) (h0:0≤x.1.Lo) (h1:x.1.Lo≤x.1.Hi) (n:Nat):A (x :: c) n=(if x.1.Lo<n then V x.2 * min ((n:Int) - x.1.Lo) (wd x.1) else 0) + A c n:=by
 unfold A
 rw [← sm_ind (V x.2) h0 h1 n,← sm_add]
 exact Zqf fun i _=>Zsx x c i
theorem V_flt {t:Int}:∀ {c:List Cell},(∀ x∈c,0≤x.1.Lo∧x.1.Lo≤x.1.Hi∧x.1.Hi≤t)→∀ {n:Nat},t<n→V (flt c)=A c n
 | [],_,n,_=>by rw [A_nil]; rfl
 | x :: c,h,n,hn=>by
  have hx:=h x (List.mem_cons_self ..)
  rw [Zew,V_app,V_map,A_cons c hx.1 hx.2.1,V_flt (fun y hy=>h y (List.mem_cons_of_mem _ hy)) hn,if_pos (by omega),Int.min_eq_right (by unfold wd; omega),Int.mul_comm]
theorem R_flt {t:Int}:∀ {c:List Cell},(∀ x∈c,0≤x.1.Lo∧x.1.Lo≤x.1.Hi∧x.1.Hi≤t)→∀(n:Nat) (h:List Int),R (flt c) ((n:Int) :: h)=A c n + R (lk c n) h
 | [],_,n,h=>by rw [A_nil]; rfl
 | x :: c,hc,n,h=>by
  have hx:=hc x (List.mem_cons_self ..)
  rw [Zew,R_app,R_map,A_cons c hx.1 hx.2.1,R_flt (fun y hy=>hc y (List.mem_cons_of_mem _ hy)) n h,Zsy]
  omega
structure Cl (t:Int) (ts:List Int) (l:List RL) (g:Nat→List RL):Prop where
 cf:∀ n,CF ts (g n)
 ms:∀(n:Nat) p,mS l ((n:Int) :: p)=mS (g n) p
 v:∀ {n:Nat},t<n→V l=sm (fun i=>V (g i)) n
 r:∀(n:Nat) h,R l ((n:Int) :: h)=sm (fun i=>V (g i)) n + R (g n) h
theorem CF.cl {t:Int} {ts:List Int} {l:List RL} (h:CF (t :: ts) l):∃ g,Cl t ts l g:=by
 obtain⟨c,rfl,ho,hc⟩:=h
 have hb:∀ x∈c,0≤x.1.Lo∧x.1.Lo≤x.1.Hi∧x.1.Hi≤t:=fun x hx=>⟨(ho.ok x hx).1,(ho.ok x hx).2.1,(ho.ok x hx).2.2.1⟩
 exact⟨fun n=>lk c n,fun n=>CF_lk ho hc _,fun n p=>by rw [Zfw,Zhb],fun hn=>V_flt hb hn,fun n h=>R_flt hb n h⟩
theorem V_zero {l:List RL} (h:CF [] l):V l=if mS l []=true then 1 else 0:=by
 rcases h with rfl | rfl <;> rfl
theorem Zqg {l:List RL} (h:CF [] l):R l []=0:=by
 rcases h with rfl | rfl <;> rfl
theorem Zjg:∀(ts:List Int) {l:List RL},(∀ t∈ts,0≤t)→CF ts l→0≤V l
 | [],l,_,h=>by rw [V_zero h]; split <;> omega
 | t :: ts,l,h0,h=>by
  obtain⟨g,hg⟩:=h.cl
  have ht:=h0 t (List.mem_cons_self ..)
  rw [hg.v (n:=(t + 1).toNat) (by omega)]
  exact Zko fun i _=>Zjg ts (fun x hx=>h0 x (List.mem_cons_of_mem _ hx)) (hg.cf i)
def b1 (b:Bool):Int:=if b=true then 1 else 0
theorem b1_01 (b:Bool):0≤b1 b∧b1 b≤1:=by cases b <;> decide
theorem Zkv:∀(ts:List Int) {l:List RL} {p:List Int},(∀ t∈ts,0≤t)→CF ts l→vP ts p→0≤R l p∧R l p + b1 (mS l p)≤V l
 | [],l,[],_,h,_=>by
  rw [V_zero h,Zqg h]
  exact⟨by omega,by unfold b1; omega⟩
 | [],_,_ :: _,_,_,h=>h.elim
 | _ :: _,_,[],_,_,h=>h.elim
 | t :: ts,l,x :: p,h0,h,hp=>by
  obtain⟨g,hg⟩:=h.cl
  obtain⟨p0,p1,p2⟩:=hp
  have h0':∀ t∈ts,0≤t:=fun x hx=>h0 x (List.mem_cons_of_mem _ hx)
  obtain⟨n,rfl⟩:∃ n:Nat,x=n:=⟨x.toNat,by omega⟩
  obtain⟨i1,i2⟩:=Zkv ts h0' (hg.cf n) p2
  have nn:∀ i,0≤V (g i):=fun i=>Zjg ts h0' (hg.cf i)
  have m:=Zrq nn (show n + 1≤(t + 1).toNat by omega)
  have m0:0≤sm (fun i=>V (g i)) n:=Zko fun i _=>nn i
  rw [hg.r,hg.ms,hg.v (n:=(t + 1).toNat) (by omega)]
  rw [sm] at m
  omega
def ltL:List Int→List Int→Prop
 | x :: g,y :: h=>x<y∨(x=y∧ltL g h)
 | _,_=>False
theorem Zrr:∀(ts:List Int) {l:List RL} {p q:List Int},(∀ t∈ts,0≤t)→CF ts l→vP ts p→vP ts q→ltL p q→R l p + b1 (mS l p)≤R l q
 | [],_,[],[],_,_,_,_,h=>h.elim
 | [],_,_ :: _,_,_,_,h,_,_=>h.elim
 | [],_,[],_ :: _,_,_,_,h,_=>h.elim
 | _ :: _,_,[],_,_,_,h,_,_=>h.elim
 | _ :: _,_,_ :: _,[],_,_,_,h,_=>h.elim
 | t :: ts,l,x :: p,y :: q,h0,h,hp,hq,hlt=>by
  obtain⟨g,hg⟩:=h.cl
  obtain⟨p0,p1,p2⟩:=hp
  obtain⟨q0,q1,q2⟩:=hq
  have h0':∀ t∈ts,0≤t:=fun x hx=>h0 x (List.mem_cons_of_mem _ hx)
  obtain⟨n,rfl⟩:∃ n:Nat,x=n:=⟨x.toNat,by omega⟩
  obtain⟨m,rfl⟩:∃ m:Nat,y=m:=⟨y.toNat,by omega⟩
  rw [hg.r,hg.r,hg.ms]
  rcases hlt with h1 | ⟨h1,h2⟩
  ·have nn:∀ i,0≤V (g i):=fun i=>Zjg ts h0' (hg.cf i)
   have mm:=Zrq nn (show n + 1≤m by omega)
   have i1:=(Zkv ts h0' (hg.cf n) p2).2
   have i2:=(Zkv ts h0' (hg.cf m) q2).1
   rw [sm] at mm
   omega
  ·have e:n=m:=by omega
   subst e
   have:=Zrr ts h0' (hg.cf n) p2 q2 h2
   omega
def inc:List Int→List Int
 | []=>[]
 | [x]=>[x + 1]
 | x :: y :: r=>x :: inc (y :: r)
theorem Zqh:∀(ts:List Int) {l:List RL} {p:List Int},(∀ t∈ts,0≤t)→CF ts l→vP ts p→p ≠ []→R l (inc p)=R l p + b1 (mS l p)
 | [],_,[],_,_,_,h=>absurd rfl h
 | [],_,_ :: _,_,_,h,_=>h.elim
 | _ :: _,_,[],_,_,h,_=>h.elim
 | [t],l,[x],h0,h,hp,_=>by
  obtain⟨g,hg⟩:=h.cl
  obtain⟨p0,p1,p2⟩:=hp
  obtain⟨n,rfl⟩:∃ n:Nat,x=n:=⟨x.toNat,by omega⟩
  rw [show inc [(n:Int)]=[((n + 1:Nat):Int)] from rfl,hg.r,hg.r,hg.ms,Zqg (hg.cf _),Zqg (hg.cf _),sm,V_zero (hg.cf n)]
  unfold b1
  omega
 | [_],_,_ :: _ :: _,_,_,h,_=>h.2.2.elim
 | _ :: _ :: _,_,[_],_,_,h,_=>h.2.2.elim
 | t :: t' :: ts,l,x :: y :: p,h0,h,hp,_=>by
  obtain⟨g,hg⟩:=h.cl
  obtain⟨p0,p1,p2⟩:=hp
  have h0':∀ z∈t' :: ts,0≤z:=fun z hz=>h0 z (List.mem_cons_of_mem _ hz)
  obtain⟨n,rfl⟩:∃ n:Nat,x=n:=⟨x.toNat,by omega⟩
  rw [show inc ((n:Int) :: y :: p)=(n:Int) :: inc (y :: p) from rfl,hg.r,hg.r,hg.ms,Zqh (t' :: ts) h0' (hg.cf n) p2 (by simp)]
  omega
end Go.AM
set_option maxRecDepth 100000
namespace Go.AM
open Go
theorem M_fuel:∃ f,fuel=f + 4:=⟨1180591620717411303420,rfl⟩
instance:DecidableEq Zl:=fun a b=>decidable_of_iff (a.Hi=b.Hi∧a.Lo=b.Lo) (by cases a; cases b; simp)
def cmp3 (x y:Int):Int:=if x<y then -1 else if x > y then 1 else 0
theorem Znl {n:Int} (h1:-9223372036854775808≤n) (h2:n<9223372036854775808):IntKind.wrap .i64 n=n:=by
 simp only [IntKind.wrap,IntKind.bits,IntKind.signed]
 simp
 omega
theorem M_cmp (a b:Int):Zcr a b=some (if a<b then -1 else if a > b then 1 else 0):=by
 simp only [Zcr,Zcc,Option.bind_some,bne_self_eq_false,Bool.false_eq_true,if_false,decide_eq_true_eq]
 split
 ·rfl
 ·split <;> rfl
theorem M_or (x y:Int):Zfg [x,y]=some (if x ≠ 0 then x else y):=by
 obtain⟨f,hf⟩:=M_fuel
 simp only [Zfg,hf]
 have w1:IntKind.wrap .i64 1=1:=Znl (by omega) (by omega)
 have w2:IntKind.wrap .i64 2=2:=Znl (by omega) (by omega)
 by_cases hx:x=0
 ·subst hx
  by_cases hy:y=0
  ·subst hy
   simp [Zdd,idx,w1,w2]
  ·simp [Zdd,idx,w1,w2,hy]
 ·simp [Zdd,idx,hx]
def cnum (c:Zl):Int:=c.Hi * 18446744073709551616 + c.Lo
theorem Zsz {a b:Zl} (ha:Zh6 a) (hb:Zh6 b):Zcd a b=some (cmp3 (cnum a) (cnum b)):=by
 simp only [Zcd,M_cmp,M_or,Option.bind_some]
 obtain⟨h1,h2,_⟩:=ha
 obtain⟨h3,h4,_⟩:=hb
 unfold Zmm at h1 h2 h3 h4
 unfold cmp3 cnum
 congr 1
 rcases Int.lt_trichotomy a.Hi b.Hi with h | h | h
 ·have k:a.Hi * 18446744073709551616 + a.Lo<b.Hi * 18446744073709551616 + b.Lo:=by omega
  simp [h,k]
 ·rw [h]
  rcases Int.lt_trichotomy a.Lo b.Lo with k | k | k
  ·simp [k]
  ·simp [k]
  ·have k1:¬ a.Lo<b.Lo:=by omega
   simp [k,k1]
 ·have n1:¬ a.Hi<b.Hi:=by omega
  have k:¬ a.Hi * 18446744073709551616 + a.Lo<b.Hi * 18446744073709551616 + b.Lo:=by omega
  have k':a.Hi * 18446744073709551616 + a.Lo > b.Hi * 18446744073709551616 + b.Lo:=by omega
  simp [h,n1,k,k']
end Go.AM
set_option maxRecDepth 100000
namespace Go.AM
open Go
theorem bindC {α β:Type} {x:Option α} {a:α} (h:x=some a) (f:α→Option β):x.bind f=f a:=by rw [h]; rfl
def cN (n:Int):Zl:=⟨n / 18446744073709551616,n % 18446744073709551616⟩
theorem cN_ok {n:Int} (h0:0≤n) (h1:n<340282366920938463463374607431768211456):Zh6 (cN n):=by
 unfold cN
 refine⟨?_,?_,trivial⟩ <;> simp only [Zmm] <;> omega
theorem cN_num (n:Int):cnum (cN n)=n:=by unfold cnum cN; simp only; omega
theorem Zux (a b:Zl):Zff a b=decide (a=b):=by
 obtain⟨a1,a2⟩:=a
 obtain⟨b1,b2⟩:=b
 rw [Bool.eq_iff_iff]
 simp [Zff]
theorem Zn9 {a b:Int} (ha:0≤a) (hb:0≤b) (h:a + b<340282366920938463463374607431768211456):Zca (cN a) (cN b)=some (cN (a + b)):=by
 unfold Zca cN
 simp only
 rw [if_pos (by omega),if_pos (by omega)]
 congr 2 <;> omega
theorem shr32 (a:Nat):bShr .u64 (a:Int) (32:Int)=((a / 4294967296:Nat):Int):=Zjb a 32 (by omega)
theorem mask32 (a:Nat) (ha:a<18446744073709551616):bAnd .u64 (a:Int) (4294967295:Int)=((a % 4294967296:Nat):Int):=by
 have h:=Zp2 (x:=a) (y:=4294967295) ha (by omega)
 have e:a &&& 4294967295=a % 4294967296:=Nat.and_two_pow_sub_one_eq_mod a 32
 rw [e] at h
 exact h
theorem mulN (a b:Nat):(a:Int) * (b:Int)=((a * b:Nat):Int):=(Int.natCast_mul a b).symm
theorem addN (a b:Nat):(a:Int) + (b:Int)=((a + b:Nat):Int):=(Int.natCast_add a b).symm
theorem wrapN (a:Nat) (ha:a<18446744073709551616):IntKind.wrap .u64 (a:Int)=(a:Int):=wu64 (by omega) (by omega)
theorem wrapM (a:Nat):IntKind.wrap .u64 (a:Int)=((a % 18446744073709551616:Nat):Int):=by
 rw [wrap_u .u64 64 rfl rfl]; omega
theorem Zqi (x y:Nat) (hx:x<18446744073709551616) (hy:y<18446744073709551616):Zdk (x:Int) (y:Int)=some (((x * y / 18446744073709551616:Nat):Int),((x * y % 18446744073709551616:Nat):Int)):=by
 obtain⟨bd,bt,bw,hhi⟩:=Lib.mul64_hi x y hx hy
 have ba:=Lib.half_mul_le (a:=x / 4294967296) (b:=y / 4294967296) (by omega) (by omega)
 have bb:=Lib.half_mul_le (a:=x / 4294967296) (b:=y % 4294967296) (by omega) (by omega)
 have bc:=Lib.half_mul_le (a:=x % 4294967296) (b:=y / 4294967296) (by omega) (by omega)
 have ba':x / 4294967296 * (y / 4294967296)<18446744073709551616:=by omega
 have bb':x / 4294967296 * (y % 4294967296)<18446744073709551616:=by omega
 have bc':x % 4294967296 * (y / 4294967296)<18446744073709551616:=by omega
 have bh1:x / 4294967296 * (y / 4294967296) + (x / 4294967296 * (y % 4294967296) + x % 4294967296 * (y % 4294967296) / 4294967296) / 4294967296<18446744073709551616:=by omega
 have bh:x / 4294967296 * (y / 4294967296) + (x / 4294967296 * (y % 4294967296) + x % 4294967296 * (y % 4294967296) / 4294967296) / 4294967296 + ((x / 4294967296 * (y % 4294967296) + x % 4294967296 * (y % 4294967296) / 4294967296) % 4294967296 + x % 4294967296 * (y / 4294967296)) / 4294967296<18446744073709551616:=by omega
 unfold Zdk
 simp only [mask32 x hx,mask32 y hy,shr32,mulN,addN,wrapN _ bd,wrapN _ bb',wrapN _ bt,mask32 _ bt,wrapN _ bc',wrapN _ bw,wrapN _ ba',wrapN _ bh1,wrapN _ bh,wrapM (x * y)]
 rw [hhi]
theorem Zqj {a n:Int} (ha:0≤a) (hn:0≤n) (hn1:n<18446744073709551616) (h:a * n<340282366920938463463374607431768211456) (ha1:a<340282366920938463463374607431768211456):∃ b,Zc3 (cN a) n=some (cN (a * n),b):=by
 obtain⟨a,rfl⟩:∃ m:Nat,a=m:=⟨a.toNat,by omega⟩
 obtain⟨n,rfl⟩:∃ m:Nat,n=m:=⟨n.toNat,by omega⟩
 have e:a * n=(a / 18446744073709551616 * n) * 18446744073709551616 + (a % 18446744073709551616) * n:=by
  have h1:a=a / 18446744073709551616 * 18446744073709551616 + a % 18446744073709551616:=by omega
  have h2:a * n=(a / 18446744073709551616 * 18446744073709551616 + a % 18446744073709551616) * n:=by rw [← h1]
  rw [h2,Nat.add_mul,Nat.mul_right_comm]
 rw [mulN] at h ⊢
 unfold Zc3
 have e1:(cN (a:Int)).Lo=((a % 18446744073709551616:Nat):Int):=rfl
 have e2:(cN (a:Int)).Hi=((a / 18446744073709551616:Nat):Int):=rfl
 rw [e1,e2,Zqi _ _ (by omega) (by omega),Zqi _ _ (by omega) (by omega)]
 simp only [Option.bind_some]
 rw [if_pos (by omega)]
 refine⟨_,congrArg (fun c=>some (c,_)) (?_:_=cN _)⟩
 unfold cN
 simp only [Zl.mk.injEq]
 rw [e] at h ⊢
 generalize a / 18446744073709551616 * n=P at *
 generalize a % 18446744073709551616 * n=Q at *
 omega
theorem Zoy {t:Int} {r:Zb} (h:ROk t r) (ht:t<4294967296):Zcv r=some (wd r):=by
 have:=h.h0
 have:=h.h1
 have:=h.h2
 unfold Zcv wd
 rw [wu64 (x:=r.Hi) (by omega) (by omega),wu64 (x:=r.Lo) (by omega) (by omega),wu64 (x:=r.Hi - r.Lo) (by omega) (by omega),wu64 (by omega) (by omega)]
def prodT:List Int→Int
 | []=>1
 | t :: ts=>(t + 1) * prodT ts
theorem Zi1:∀(ts:List Int) {b:RL},vR ts b→1≤vol b∧vol b≤prodT ts
 | [],[],_=>by unfold vol prodT; omega
 | [],_ :: _,h=>h.elim
 | _ :: _,[],h=>h.elim
 | t :: ts,r :: b,⟨h0,h1,h2,h3⟩=>by
  obtain⟨i1,i2⟩:=Zi1 ts h3
  unfold vol prodT
  have hw:1≤wd r∧wd r≤t + 1:=by unfold wd; omega
  have a1:=Int.mul_le_mul hw.1 i1 (by omega) (by omega)
  have a2:=Int.mul_le_mul hw.2 i2 (by omega) (by omega)
  omega
theorem V_le:∀(ts:List Int) {l:List RL},(∀ t∈ts,0≤t)→CF ts l→V l≤prodT ts
 | [],l,_,h=>by rw [V_zero h]; unfold prodT; split <;> omega
 | t :: ts,l,h0,h=>by
  obtain⟨g,hg⟩:=h.cl
  have ht:=h0 t (List.mem_cons_self ..)
  have h0':∀ x∈ts,0≤x:=fun x hx=>h0 x (List.mem_cons_of_mem _ hx)
  rw [hg.v (n:=(t + 1).toNat) (by omega)]
  have key:∀ n:Nat,sm (fun i=>V (g i)) n≤n * prodT ts:=by
   intro n
   induction n with
   | zero=>rw [sm]; simp
   | succ n ih=>
    have:=V_le ts h0' (hg.cf n)
    rw [sm,show ((n + 1:Nat):Int)=(n:Int) + 1 from rfl,Int.add_mul]
    omega
  have:=key (t + 1).toNat
  rw [show (((t + 1).toNat:Nat):Int)=t + 1 by omega] at this
  exact this
theorem prodT5:prodT tops5=20282409603651670423947251286016:=by decide
theorem sf_vR {b:Bx} (h:BOk b):∀ {f:Nat},f≤5→vR (tops5.drop f) (sf f b):=by
 have key:∀(f:Nat) (ts:List Int) (l:RL),vR ts l→vR (ts.drop f) (l.drop f):=by
  intro f
  induction f with
  | zero=>exact fun ts l h=>h
  | succ f ih=>
   intro ts l h
   cases ts with
   | nil=>cases l with
    | nil=>exact h
    | cons _ _=>exact h.elim
   | cons t ts=>cases l with
    | nil=>exact h.elim
    | cons r l=>exact ih ts l h.2.2.2
 intro f _
 exact key f tops5 (toL b) (ok_vR h)
theorem Znm:∀(f:Nat),f≤5→prodT (tops5.drop f)≤20282409603651670423947251286016:=by
 intro f hf
 rcases (show f=0∨f=1∨f=2∨f=3∨f=4∨f=5 by omega) with rfl | rfl | rfl | rfl | rfl | rfl <;> decide
theorem getR {b:Bx} (h:BOk b) {f:Nat} (hf:f<5):ROk (topOf (f:Int)) (b.get (f:Int))∧topOf (f:Int)<4294967296:=by
 rcases fiveN hf with rfl | rfl | rfl | rfl | rfl
 ·exact⟨h.h0,by decide⟩
 ·exact⟨h.h1,by decide⟩
 ·exact⟨h.h2,by decide⟩
 ·exact⟨h.h3,by decide⟩
 ·exact⟨h.h4,by decide⟩
theorem Zqk {b:Bx} (h:BOk b) {f:Nat} (hf:f≤5):∀(j i n:Nat) (c:Int),f + i + j=5→j<n→1≤c→c * vol (sf (f + i) b)<340282366920938463463374607431768211456→Zcj b (f:Int) n (cN c) (i:Int)=some (cN (c * vol (sf (f + i) b)))
 | 0,i,n + 1,c,e,_,hc,hb=>by
  rw [Zcj,if_neg (by simp; omega)]
  have:sf (f + i) b=[]:=List.eq_nil_of_length_eq_zero (by rw [sf_len (by omega)]; omega)
  rw [this]
  show _=some (cN (c * 1))
  rw [Int.mul_one]
 | j + 1,i,n + 1,c,e,hn,hc,hb=>by
  have hfi:f + i<5:=by omega
  have hv:=(Zi1 _ (sf_vR h (f:=f + i + 1) (by omega))).1
  obtain⟨hr,ht⟩:=getR h hfi
  have hw:1≤wd (b.get ((f + i:Nat):Int))∧wd (b.get ((f + i:Nat):Int))≤4294967296:=by
   have:=hr.h0; have:=hr.h1; have:=hr.h2
   unfold wd; omega
  rw [Zh1 hfi b] at hb ⊢
  rw [vol,← Int.mul_assoc] at hb ⊢
  have h1:c * wd (b.get ((f + i:Nat):Int))≤c * wd (b.get ((f + i:Nat):Int)) * vol (sf (f + i + 1) b):=by
   have p:0≤c * wd (b.get ((f + i:Nat):Int)):=Int.mul_nonneg (by omega) (by omega)
   have:=Int.mul_le_mul_of_nonneg_left hv p
   rw [Int.mul_one] at this
   exact this
  have h2:c≤c * wd (b.get ((f + i:Nat):Int)):=by
   have:=Int.mul_le_mul_of_nonneg_left hw.1 (show 0≤c by omega)
   rw [Int.mul_one] at this
   exact this
  obtain⟨k,hk⟩:=Zqj (a:=c) (n:=wd (b.get ((f + i:Nat):Int))) (by omega) (by omega) (by omega) (by omega) (by omega)
  rw [Zcj,if_pos (by simp; omega),if_pos (by simp; omega),if_pos (by omega),show (f:Int) + (i:Int)=((f + i:Nat):Int) from rfl,Zoy hr ht]
  simp only [Option.bind_some,hk]
  rw [wsucc (by omega)]
  exact Zqk h hf j (i + 1) n _ (by omega) (by omega) (by omega) hb
theorem Zs0 {b:Bx} (h:BOk b) {f:Nat} (hf:f≤5):Zdl b (f:Int)=some (cN (vol (sf f b))):=by
 unfold Zdl
 have hv:=Zi1 _ (sf_vR h hf)
 have hp:=Znm f hf
 rw [show Zb8 1=some (cN 1) from rfl]
 simp only [Option.bind_some]
 rw [if_pos (by omega)]
 have:=Zqk h hf (5 - f) 0 fuel 1 (by omega) (by unfold fuel; omega) (by omega) (by rw [Int.one_mul]; simp only [Nat.add_zero]; omega)
 rw [Int.one_mul] at this
 rw [show (0:Int)=((0:Nat):Int) from rfl,this]
 rfl
theorem Zuu {l:List Bx} (hl:l.length≤300000) (hin:∀ x∈l,BIn x):Ze3 l=some (st l):=by
 unfold Ze3 st
 rw [pVal hl hin]
 simp only [Option.bind_some]
 by_cases h:vSb l=true
 ·rw [if_pos h,if_pos h]
 ·rw [if_neg h,if_neg h,Ztx (by omega) hin]; rfl
theorem V_vs {l:List Bx} (h:VS l):0≤V (l.map toL)∧V (l.map toL)≤20282409603651670423947251286016:=by
 refine⟨Zjg _ Zhc h.cf,?_⟩
 have:=V_le _ Zhc h.cf
 rw [prodT5] at this
 exact this
end Go.AM
set_option maxRecDepth 100000
namespace Go.AM
open Go
end Go.AM
set_option maxRecDepth 100000
namespace Go.AM
open Go
structure InL (l:List Bx):Prop where
 len:l.length≤300000
 bin:∀ x∈l,BIn x
theorem InL.one {b:Bx} (h:BIn b):InL [b]:=⟨by simp,fun x hx=>by rw [List.mem_singleton] at hx; rw [hx]; exact h⟩
abbrev ISt:=Bool × List Bx
structure ISok (s:ISt):Prop where
 vs:VS s.2
 e:s.1=true→s.2=[]
end Go.AM
set_option maxRecDepth 100000
namespace Go.AM
open Go
theorem Zuv (b:Bx) (p:List Int):mem [b] p=mB (toL b) p:=by unfold mem mS; simp
end Go.AM
set_option maxRecDepth 100000
namespace Go.AM
open Go
abbrev QSt:=Bool × List Bx × List Bx
structure QOk (s:QSt):Prop where
 o:VS s.2.1
 r:VS s.2.2
end Go.AM
set_option maxRecDepth 100000
namespace Go.AM
open Go
theorem Zs1 {t:Ze} (ht:TOk t):Ok (Zde t) fun r=>Z6 r.1∧TOk r.2:=by
 unfold Zde
 refine Ok.bind (Ziz ht) fun r1 ⟨a1,h1⟩=>Ok.bind (Ziz h1) fun r3 ⟨a3,h3⟩=>?_
 refine Ok.bind (Zcu h3 6 (by omega) (by omega)) fun r5 ⟨⟨c0,c1⟩,h5⟩=>?_
 refine Ok.bind (Ok.idx (p:=fun x=>0≤x∧x<256) c0 (by simpa using c1) fun x hx=>?_) fun x7 hx7=>?_
 ·simp only [List.mem_cons,List.not_mem_nil,or_false] at hx
  omega
 refine Ok.bind (Zim h5 (by omega) (by omega)) fun r9 ⟨a9,h9⟩=>Ok.bind (Zim h9 (by omega) (by omega)) fun r11 ⟨a11,h11⟩=>Ok.ret ⟨?_,h11⟩
 have g9:=Zna r9.1
 have g11:=Zna r11.1
 refine⟨?_,?_,?_,?_,?_,trivial⟩ <;> simp only [Zgl,Zf3,ok_u8] <;> omega
theorem Zql (v:Arr5 Int) (x:Int) {k:Int} (h0:0≤k) (h1:k<5):(v.set k x).get k=x:=by
 rcases five h0 h1 with rfl | rfl | rfl | rfl | rfl <;> rfl
theorem Zqm (v:Arr5 Int) (x y:Int) {k:Int} (h0:0≤k) (h1:k<5):(v.set k x).set k y=v.set k y:=by
 rcases five h0 h1 with rfl | rfl | rfl | rfl | rfl <;> rfl
theorem z_ok:VOk Zf8:=⟨by decide,by decide,by decide,by decide,by decide⟩
theorem Zrs {t:Ze} (ht:TOk t) {l:List (Arr5 Zb)} (hl:∀ b∈l,BIn b) (hn:l.length≤1000000):Ok (Zc5 t l) fun r=>Z6 r.1∧TOk r.2:=by
 unfold Zc5
 refine Ok.lift ?_
 refine Ok.bind (p:=fun v=>TOk v.2∧(v.1=false→0<l.length)) ?_ fun v ⟨hv,hp⟩=>?_
 ·refine Ok.ite (fun _=>Ok.ret ⟨ht,fun h=>by cases h⟩) fun hc=>?_
  exact Ok.bind (Zcu ht 4 (by omega) (by omega)) fun r ⟨_,h4⟩=>Ok.ret ⟨h4,fun _=>by
   rcases l with _ | ⟨a,l⟩
   ·exact absurd rfl hc
   ·simp⟩
 refine Ok.ite (fun _=>Ok.bind (Zs1 hv) fun r h=>Ok.ret h) fun hc=>?_
 have hp:=hp (by simpa using hc)
 refine Ok.bind (Zcu hv (l.length:Int) (by omega) (by omega)) fun r11 ⟨⟨a0,a1⟩,h11⟩=>?_
 refine Ok.bind (Ok.idx (p:=BIn) a0 a1 hl) fun b hb=>?_
 refine Ok.bind (p:=fun o=>TOk o.1∧VOk o.2) ?_ fun o ⟨g1,g2⟩=>?_
 ·refine Ok.mono (p:=fun(o:Ze × Arr5 Int)=>TOk o.1∧VOk o.2) ?_ fun _ h=>h
  have key:∀(s:Ze × Arr5 Int),TOk s.1∧VOk s.2→Ok ((fun n (s:Ze × Arr5 Int) k=>Za9 b n s.1 s.2 k) fuel s 0) fun(o:Ze × Arr5 Int)=>TOk o.1∧VOk o.2:=fun s hs=>by
   refine Zuf (L:=fun n (s:Ze × Arr5 Int) k=>Za9 b n s.1 s.2 k) (I:=fun s=>TOk s.1∧VOk s.2) (fun n s k h0 h1 ⟨e1,e2⟩ kk=>?_) (fun n s h=>?_) s hs
   ·have hk:0≤k∧k<5:=⟨h0,h1⟩
    show Ok (Za9 b (n + 1) s.1 s.2 k) _
    rw [Za9,if_pos (decide_eq_true h1)]
    refine Ok.chk hk (Ok.chk hk (Ok.chk hk (Ok.chk hk (Ok.chk hk (Ok.chk hk (Ok.chk hk ?_))))))
    refine Ok.bind (Zcu e1 5 (by omega) (by omega)) fun r81 ⟨⟨d0,d1⟩,h81⟩=>?_
    have hg:=hb.get k
    have w1:=Zev ((b.get k).Lo - 1)
    have w2:=Zev ((b.get k).Hi + 1)
    have w3:=Zev ((b.get k).Lo + IntKind.wrap .u32 (Int.tdiv (IntKind.wrap .u32 ((b.get k).Hi - (b.get k).Lo)) 2))
    have q0:=hg.h0
    have q1:=hg.h1
    have q2:=hg.h2
    have q3:=hg.h3
    refine Ok.bind (Ok.idx (p:=fun x=>0≤x∧x<4294967296) d0 (by simpa using d1) fun x hx=>?_) fun x hx=>?_
    ·simp only [List.mem_cons,List.not_mem_nil,or_false] at hx
     omega
    refine Ok.chk hk (Ok.chk hk ?_)
    rw [Top_eq k h0 h1]
    refine Ok.lift ?_
    refine Ok.chk hk ?_
    rw [wnext h0 (by omega),Zql _ _ h0 h1,Zqm _ _ _ h0 h1]
    have ht:=Zp6 h0 h1
    refine kk (r81.2,s.2.set k (iMin x (topOf k))) ⟨h81,e2.set h0 h1 ?_ ?_⟩
    ·unfold iMin; split <;> omega
    ·unfold iMin; split <;> omega
   ·show Ok (Za9 b (n + 1) s.1 s.2 5) _
    rw [Za9,if_neg (by decide)]
    exact Ok.ret h
  exact key (r11.2,Zf8) ⟨h11,z_ok⟩
 ·obtain⟨o1,o2⟩:=o
  show Ok ((Zdu o2).bind _) _
  rw [Znh g2]
  exact Ok.lift (Ok.ret ⟨hdr_ok g2,g1⟩)
end Go.AM
set_option maxRecDepth 100000
namespace Go.AM
open Go
end Go.AM
set_option maxRecDepth 100000
namespace Go.AM
open Go
def pt (h:Zi):List Int:=[h.Src,h.Dst,h.Proto,h.SrcPort,h.DstPort]
theorem pt_ok {h:Zi} (hh:Z6 h):vP tops5 (pt h):=by
 have:=hv_ok hh
 exact⟨this.h0.1,this.h0.2,this.h1.1,this.h1.2,this.h2.1,this.h2.2,this.h3.1,this.h3.2,this.h4.1,this.h4.2,trivial⟩
theorem pt_inj {g h:Zi} (e:pt g=pt h):g=h:=by
 obtain⟨a,b,c,d,f⟩:=g
 obtain⟨a',b',c',d',f'⟩:=h
 simp only [pt,List.cons.injEq,and_true] at e
 obtain⟨rfl,rfl,rfl,rfl,rfl⟩:=e
 rfl
theorem cB_eq (b:Bx) (h:Zi):cB b h=(vB b && mB (toL b) (pt h)):=by
 unfold cB
 congr 1
 unfold allF outB
 rw [Bool.eq_iff_iff]
 simp only [toL,pt,mB,hv,Bool.not_eq_true',Bool.or_eq_false_iff,decide_eq_false_iff_not,Bool.and_eq_true,Zdm,Arr5.get]
 simp
 omega
theorem Zls {h:Zi} (hh:Z6 h) {l:List Bx} (hl:l.length≤1000000000000):Zbm l h=some (mem (l.filter vB) (pt h)):=by
 unfold Zbm
 rw [Zkg (L:=Zcb l h) l (fun _ x=>if cB x h=true then some true else none) hl (fun n i hi=>by
  rw [Zcb]
  simp only [show ((i:Int)<(l.length:Int)) from by omega,decide_true,if_true,Zct hi,Option.bind_some,Zp5 hh,wsucc (by omega:i<1000000000001)]
  cases cB l[i] h <;> rfl) (fun n=>by rw [Zcb]; simp)]
 have e:∀(l:List Bx) (i:Nat),findI (fun _ x=>if cB x h=true then some true else none) i l=if mem (l.filter vB) (pt h)=true then some true else none:=by
  intro l
  induction l with
  | nil=>intro i; rfl
  | cons b l ih=>
   intro i
   simp only [findI,cB_eq]
   have e2:mem ((b :: l).filter vB) (pt h)=((vB b && mB (toL b) (pt h)) || mem (l.filter vB) (pt h)):=by
    rw [List.filter_cons]
    by_cases hb:vB b=true
    ·rw [if_pos hb,hb,Bool.true_and,show b :: l.filter vB=[b]++l.filter vB from rfl,Zro,Zuv]
    ·rw [if_neg hb]
     rw [Bool.not_eq_true] at hb
     rw [hb]; rfl
   rw [e2]
   by_cases hb:(vB b && mB (toL b) (pt h))=true
   ·rw [if_pos hb,hb]; rfl
   ·rw [if_neg hb]
    rw [Bool.not_eq_true] at hb
    rw [hb,Bool.false_or]
    have:=ih (i + 1)
    simp only [cB_eq] at this
    exact this
 rw [e]
 cases mem (l.filter vB) (pt h) <;> rfl
end Go.AM
set_option maxRecDepth 100000
namespace Go.AM
open Go
theorem Zhy:∀(ts:List Int) {b:RL} (p:List Int),vR ts b→0≤bel b p
 | [],[],_,_=>by unfold bel; omega
 | [],_ :: _,_,h=>h.elim
 | _ :: _,[],_,h=>h.elim
 | t :: ts,r :: b,[],_=>by unfold bel; omega
 | t :: ts,r :: b,x :: p,⟨h0,h1,h2,h3⟩=>by
  have i:=Zhy ts p h3
  have v:=(Zi1 ts h3).1
  unfold bel
  have hm:r.Lo<x→0≤vol b * min (x - r.Lo) (wd r):=fun h=>Int.mul_nonneg (by omega) (by unfold wd; omega)
  split
  ·rename_i h
   have:=hm h
   split <;> omega
  ·split <;> omega
theorem Zoa {f:Nat} (hf:f<5) (h:Zi):(pt h).drop f=(hv h).get (f:Int) :: (pt h).drop (f + 1):=by
 rcases fiveN hf with rfl | rfl | rfl | rfl | rfl <;> rfl
theorem hv_get {h:Zi} (hh:Z6 h) {f:Nat} (hf:f<5):0≤(hv h).get (f:Int)∧(hv h).get (f:Int)≤4294967295:=by
 have v:=hv_ok hh
 have:=v.h0; have:=v.h1; have:=v.h2; have:=v.h3; have:=v.h4
 rcases fiveN hf with rfl | rfl | rfl | rfl | rfl
 ·show 0≤(hv h).x0∧(hv h).x0≤_; omega
 ·show 0≤(hv h).x1∧(hv h).x1≤_; omega
 ·show 0≤(hv h).x2∧(hv h).x2≤_; omega
 ·show 0≤(hv h).x3∧(hv h).x3≤_; omega
 ·show 0≤(hv h).x4∧(hv h).x4≤_; omega
theorem Zrt {b:Bx} (hb:BOk b) {h:Zi} (hh:Z6 h):∀(j f n:Nat) (c:Int),f + j=5→j<n→0≤c→c + bel (sf f b) ((pt h).drop f)<340282366920938463463374607431768211456→Zb7 b h n (cN c) (f:Int)=some (cN (c + bel (sf f b) ((pt h).drop f)))
 | 0,f,n + 1,c,e,_,hc,hx=>by
  have:f=5:=by omega
  subst this
  rw [Zb7,if_neg (by decide)]
  show _=some (cN (c + bel [] []))
  unfold bel
  rw [Int.add_zero]
 | j + 1,f,n + 1,c,e,hn,hc,hx=>by
  have hf:f<5:=by omega
  obtain⟨hr,ht⟩:=getR hb hf
  have hg:=hv_get hh hf
  have hvr:=sf_vR hb (f:=f + 1) (by omega)
  have v:=Zi1 _ hvr
  have pd:=Znm (f + 1) (by omega)
  have nn:=Zhy _ ((pt h).drop (f + 1)) hvr
  have r0:=hr.h0
  have r1:=hr.h1
  have r2:=hr.h2
  have hlt:(decide ((f:Int)<5))=true:=decide_eq_true (by omega)
  rw [Zh1 hf b,Zoa hf h] at hx ⊢
  rw [bel] at hx ⊢
  rw [Zb7,if_pos hlt,if_pos (by omega),bindC (Zto hh (by omega) (by omega))]
  generalize hq:(hv h).get (f:Int)=x at hx hg ⊢
  have hstep:∃ c',(if (decide (x > (Arr5.get b (f:Int)).Lo))=true then
    (Zcv (Arr5.get b (f:Int))).bind fun(r165:Int)=>
    (Zdl b (IntKind.wrap .i64 ((f:Int) + (1:Int)))).bind fun(r167:Zl)=>
    (Zc3 r167 (iMin (IntKind.wrap .u64 ((IntKind.wrap .u64 x) - (IntKind.wrap .u64 (Arr5.get b (f:Int)).Lo))) r165)).bind fun(r169:(Zl × Bool))=>
    (Zca (cN c) r169.1).bind fun(r171:Zl)=>
    some r171
   else
    some (cN c))=some (cN c')∧c'=c + (if (b.get (f:Int)).Lo<x then vol (sf (f + 1) b) * min (x - (b.get (f:Int)).Lo) (wd (b.get (f:Int))) else 0)∧0≤c':=by
   by_cases hl:(b.get (f:Int)).Lo<x
   ·rw [if_pos hl] at hx ⊢
    have hmin:0≤min (x - (b.get (f:Int)).Lo) (wd (b.get (f:Int)))∧min (x - (b.get (f:Int)).Lo) (wd (b.get (f:Int)))≤4294967296:=by unfold wd; omega
    have hm0:0≤vol (sf (f + 1) b) * min (x - (b.get (f:Int)).Lo) (wd (b.get (f:Int))):=Int.mul_nonneg (by omega) hmin.1
    have hm1:vol (sf (f + 1) b) * min (x - (b.get (f:Int)).Lo) (wd (b.get (f:Int)))<340282366920938463463374607431768211456:=by
     have:(0:Int)≤(if inR x (b.get (f:Int))=true then bel (sf (f + 1) b) ((pt h).drop (f + 1)) else 0):=by split <;> omega
     omega
    obtain⟨k,hk⟩:=Zqj (a:=vol (sf (f + 1) b)) (n:=min (x - (b.get (f:Int)).Lo) (wd (b.get (f:Int)))) (by omega) hmin.1 (by omega) hm1 (by omega)
    have hi:iMin (IntKind.wrap .u64 ((IntKind.wrap .u64 x) - (IntKind.wrap .u64 (Arr5.get b (f:Int)).Lo))) (wd (b.get (f:Int)))=min (x - (b.get (f:Int)).Lo) (wd (b.get (f:Int))):=by
     rw [wu64 (x:=x) (by omega) (by omega),wu64 (x:=(b.get (f:Int)).Lo) (by omega) (by omega),wu64 (by omega) (by omega)]
     unfold iMin
     split <;> omega
    have hbig:c + vol (sf (f + 1) b) * min (x - (b.get (f:Int)).Lo) (wd (b.get (f:Int)))<340282366920938463463374607431768211456:=by
     have:(0:Int)≤(if inR x (b.get (f:Int))=true then bel (sf (f + 1) b) ((pt h).drop (f + 1)) else 0):=by split <;> omega
     omega
    refine⟨_,?_,rfl,by omega⟩
    rw [if_pos (decide_eq_true hl),Zoy hr ht,wsucc (by omega)]
    simp only [Option.bind_some,Zs0 hb (show f + 1≤5 by omega),hi,hk]
    rw [Zn9 hc hm0 hbig]
    rfl
   ·rw [if_neg hl]
    refine⟨c,?_,by omega,hc⟩
    rw [if_neg (by simpa using hl)]
  obtain⟨c',s1,s2,s3⟩:=hstep
  rw [bindC s1]
  simp only [Option.bind_some]
  by_cases hin:inR x (b.get (f:Int))=true
  ·have hin':=Zdm.1 hin
   rw [if_pos hin] at hx ⊢
   rw [if_neg (by simp; omega)]
   simp only [Option.bind_some]
   rw [wsucc (by omega),Zrt hb hh j (f + 1) n c' (by omega) (by omega) s3 (by omega),s2,Int.add_assoc]
  ·have hin':x<(b.get (f:Int)).Lo∨x > (b.get (f:Int)).Hi:=by rw [Zdm] at hin; omega
   rw [if_neg hin] at hx ⊢
   rw [if_pos (by simp; omega)]
   simp only [Option.bind_some]
   rw [s2,Int.add_zero]
theorem Zty {b:Bx} (hb:BOk b) {h:Zi} (hh:Z6 h) (hx:bel (toL b) (pt h)<340282366920938463463374607431768211456):Zed b h=some (cN (bel (toL b) (pt h))):=by
 unfold Zed
 have:=Zrt hb hh 5 0 fuel 0 rfl (by unfold fuel; omega) (by omega) (by rw [Int.zero_add]; exact hx)
 rw [Int.zero_add] at this
 have e0:Zb7 b h fuel Zx 0=_:=this
 rw [e0]
 rfl
theorem Ztz {l:List Bx} (hok:∀ b∈l,BOk b) (p:List Int):0≤R (l.map toL) p:=by
 induction l with
 | nil=>show (0:Int)≤0; omega
 | cons b l ih=>
  have:=ih fun x hx=>hok x (List.mem_cons_of_mem _ hx)
  have:=Zhy _ p (ok_vR (hok b (List.mem_cons_self ..)))
  rw [List.map_cons,R]; omega
theorem rank_L {s:List Bx × Int} (hl:s.1.length≤1000000) (hok:∀ b∈s.1,BOk b) {h:Zi} (hh:Z6 h):∀(j i n:Nat) (c:Int),s.1.length - i=j→i≤s.1.length→j<n→0≤c→c + R ((s.1.drop i).map toL) (pt h)<340282366920938463463374607431768211456→Zcf h s n (cN c) (i:Int)=some (cN (c + R ((s.1.drop i).map toL) (pt h)))
 | 0,i,n + 1,c,e,hi,_,hc,hb=>by
  rw [Zcf,if_neg (by simp; omega),List.drop_eq_nil_of_le (by omega)]
  show _=some (cN (c + 0))
  rw [Int.add_zero]
 | j + 1,i,n + 1,c,e,hi,hn,hc,hb=>by
  have hi':i<s.1.length:=by omega
  rw [List.drop_eq_getElem_cons hi',List.map_cons,R] at hb ⊢
  have hx:=hok _ (List.getElem_mem hi')
  have hv:=Zhy _ (pt h) (ok_vR hx)
  have hV:=Ztz (l:=s.1.drop (i + 1)) (fun b hb=>hok b (List.mem_of_mem_drop hb)) (pt h)
  rw [Zcf,if_pos (by simp; omega),Zct hi']
  simp only [Option.bind_some]
  rw [Zty hx hh (by omega)]
  simp only [Option.bind_some]
  rw [Zn9 hc hv (by omega)]
  simp only [Option.bind_some]
  rw [wsucc (by omega),rank_L hl hok hh j (i + 1) n _ (by omega) (by omega) (by omega) (by omega) (by omega),Int.add_assoc]
noncomputable def rkA (l:List Bx) (p:List Int):Zl × Int:=if (st l).2 ≠ 0 then (⟨0,0⟩,(st l).2) else (cN (R ((st l).1.map toL) p),0)
theorem R_vs {l:List Bx} (h:VS l) {p:List Int} (hp:vP tops5 p):0≤R (l.map toL) p∧R (l.map toL) p + b1 (mem l p)≤V (l.map toL):=Zkv _ Zhc h.cf hp
theorem Zkw {l:List Bx} (hl:l.length≤300000) (hin:∀ x∈l,BIn x) {h:Zi} (hh:Z6 h):Zb1 l h=some (rkA l (pt h)):=by
 unfold Zb1 rkA
 rw [Zuu hl hin]
 simp only [Option.bind_some]
 by_cases hz:(st l).2=0
 ·have hv:=(st_ok l).1.vs
  have hV:=V_vs hv
  have hR:=R_vs hv (pt_ok hh)
  have h01:=b1_01 (mem (st l).1 (pt h))
  rw [if_neg (by simp [hz]),if_neg (by simp [hz])]
  have:=rank_L (s:=st l) (by have:=hv.len; omega) hv.ok hh _ 0 fuel 0 rfl (by omega) (by have:=hv.len; unfold fuel; omega) (by omega) (by rw [Int.zero_add]; show R ((st l).1.map toL) (pt h)<_; omega)
  rw [Int.zero_add] at this
  have e0:Zcf h (st l) fuel Zx 0=_:=this
  rw [e0]
  rfl
 ·rw [if_pos (by simpa using hz),if_pos (by simpa using hz)]
end Go.AM
set_option maxRecDepth 100000
namespace Go.AM
open Go
def cmpO:List Int→List Int→Unit ⊕ Int
 | x :: g,y :: h=>if x=y then cmpO g h else .inr (if x<y then -1 else 1)
 | _,_=>.inl ()
theorem Zoz:∀ {g h:List Int},g.length=h.length→match cmpO g h with
  | .inl _=>g=h
  | .inr r=>(r=-1∧ltL g h)∨(r=1∧ltL h g)
 | [],[],_=>rfl
 | [],_ :: _,h=>by cases h
 | _ :: _,[],h=>by cases h
 | x :: g,y :: h,e=>by
  have ih:=Zoz (g:=g) (h:=h) (by simpa using e)
  unfold cmpO
  by_cases hx:x=y
  ·rw [if_pos hx]
   subst hx
   cases hc:cmpO g h with
   | inl u=>
    rw [hc] at ih
    show x :: g=x :: h
    rw [show g=h from ih]
   | inr r=>
    rw [hc] at ih
    rcases ih with ⟨h1,h2⟩ | ⟨h1,h2⟩
    ·exact Or.inl ⟨h1,Or.inr ⟨rfl,h2⟩⟩
    ·exact Or.inr ⟨h1,Or.inr ⟨rfl,h2⟩⟩
  ·rw [if_neg hx]
   by_cases hl:x<y
   ·rw [if_pos hl]
    exact Or.inl ⟨rfl,Or.inl hl⟩
   ·rw [if_neg hl]
    exact Or.inr ⟨rfl,Or.inl (by omega)⟩
theorem Zuw (v:Arr5 Int) {f:Nat} (hf:f<5):(ofB v).get (f:Int)=⟨v.get (f:Int),v.get (f:Int)⟩:=by
 rcases fiveN hf with rfl | rfl | rfl | rfl | rfl <;> rfl
theorem Zs2 (x y:Int):Zd1 x y=some (if x<y then -1 else if x > y then 1 else 0):=by
 unfold Zd1
 by_cases h1:x<y
 ·rw [if_pos (decide_eq_true h1),if_pos h1]
 ·rw [if_neg (by simpa using h1),if_neg h1]
  by_cases h2:x > y
  ·rw [if_pos (decide_eq_true h2),if_pos h2]
  ·rw [if_neg (by simpa using h2),if_neg h2]
theorem Zru (g h:Zi):∀(j f n:Nat),f + j=5→j<n→Zb2 (ofB (hv g)) (ofB (hv h)) n (f:Int)=some (cmpO ((pt g).drop f) ((pt h).drop f))
 | 0,f,n + 1,e,_=>by
  have:f=5:=by omega
  subst this
  rw [Zb2,if_neg (by decide)]
  rfl
 | j + 1,f,n + 1,e,hn=>by
  have hf:f<5:=by omega
  rw [Zoa hf g,Zoa hf h,cmpO]
  have hlt:(decide ((f:Int)<5))=true:=decide_eq_true (by omega)
  have h05:0≤(f:Int)∧(f:Int)<5:=by omega
  rw [Zb2,if_pos hlt]
  simp only [if_pos h05,Zuw _ hf,Zs2,Option.bind_some]
  by_cases hx:(hv g).get (f:Int)=(hv h).get (f:Int)
  ·rw [if_neg (by simp [hx]),if_neg (by simp [hx]),if_pos hx,wsucc (by omega)]
   exact Zru g h j (f + 1) n (by omega) (by omega)
  ·rw [if_pos (by simpa using hx),if_neg hx]
   congr 2
   by_cases hl:(hv g).get (f:Int)<(hv h).get (f:Int)
   ·rw [if_pos hl,if_pos hl]
   ·rw [if_neg hl,if_neg hl,if_pos (by omega)]
theorem Zt0 {g h:Zi} (hg:Z6 g) (hh:Z6 h):∃ r,Zeo g h=some r∧(r > 0→ltL (pt h) (pt g))∧(¬ r > 0→g=h∨ltL (pt g) (pt h)):=by
 unfold Zeo Ze1
 rw [rOf_eq hg,rOf_eq hh]
 have:=Zru g h 5 0 fuel rfl (by unfold fuel; omega)
 have e0:Zb2 (ofB (hv g)) (ofB (hv h)) fuel 0=some (cmpO (pt g) (pt h)):=this
 simp only [Option.bind_some,e0]
 have sp:=Zoz (g:=pt g) (h:=pt h) rfl
 cases hc:cmpO (pt g) (pt h) with
 | inl u=>
  rw [hc] at sp
  exact⟨0,rfl,fun h=>by omega,fun _=>Or.inl (pt_inj sp)⟩
 | inr r=>
  rw [hc] at sp
  refine⟨r,rfl,fun h=>?_,fun h=>?_⟩
  ·rcases sp with ⟨h1,h2⟩ | ⟨h1,h2⟩
   ·omega
   ·exact h2
  ·rcases sp with ⟨h1,h2⟩ | ⟨h1,h2⟩
   ·exact Or.inr h2
   ·omega
theorem Zt1 {h:Zi} (hh:Z6 h) {f:Nat} (hf:f<5) {x:Int} (h0:0≤x):Zc7 h (f:Int) x=some (if x≤topOf (f:Int) then hdr ((hv h).set (f:Int) x) else h):=by
 unfold Zc7
 rw [Top_eq (f:Int) (by omega) (by omega),Zjd hh]
 have e1:decide ((f:Int)<0)=false:=decide_eq_false (by omega)
 have e2:decide ((f:Int) ≥ 5)=false:=decide_eq_false (by omega)
 simp only [Option.bind_some,e1,e2,Bool.or_self,Bool.false_eq_true,if_false]
 by_cases hx:x≤topOf (f:Int)
 ·rw [if_neg (by simp; omega),if_pos hx,if_pos (by omega)]
  have hv':=(hv_ok hh).set (k:=(f:Int)) (by omega) (by omega) h0 hx
  rw [Znh hv']
  rfl
 ·rw [if_pos (by simp; omega),if_neg hx]
theorem Zo0 {l:List Bx} (hl:l.length≤300000) (hin:∀ x∈l,BIn x) {g h:Zi} (hg:Z6 g) (hh:Z6 h) (hgh:g=h∨ltL (pt g) (pt h)) :
  ((Zb1 l g).bind fun(r34:(Zl × Int))=>
   (Zb1 l h).bind fun(r36:(Zl × Int))=>
   (some (r34.2 != (0:Int))).bind fun(b38:Bool)=>
   if (b38 || (r36.2 != (0:Int)))=true then
    (some (r34.2 == (3:Int))).bind fun(b40:Bool)=>
    (some (b40 || (r36.2 == (3:Int)))).bind fun(b42:Bool)=>
    (if b42=true then
     (Zdt).bind fun(r44:Bool)=>
     some r44
     else some false).bind fun(v46:Bool)=>
    some v46
   else
    (Zcd r34.1 r36.1).bind fun(r51:Int)=>
    if (decide (r51 > (0:Int)))=true then
     some false
    else
     (some (!(Zcp g h))).bind fun(b53:Bool)=>
     (if b53=true then
      (Zbm l g).bind fun(r55:Bool)=>
      some r55
      else some false).bind fun(v57:Bool)=>
     (some v57).bind fun(b59:Bool)=>
     (if b59=true then
      (Zcd r34.1 r36.1).bind fun(r61:Int)=>
      some (decide (r61 ≥ (0:Int)))
      else some false).bind fun(v63:Bool)=>
     if v63=true then
      some false
     else
      (Zc7 g (4:Int) (IntKind.wrap .u32 ((IntKind.wrap .u32 g.DstPort) + (1:Int)))).bind fun(r70:Zi)=>
      (Zb1 l r70).bind fun(r72:(Zl × Int))=>
      ((Zbm l g).bind fun(r83:Bool)=>
      if r83=true then
       (Zb8 (1:Int)).bind fun(r85:Zl)=>
       (Zca r34.1 r85).bind fun(r87:Zl)=>
       some r87
      else
       some r34.1).bind fun(v81:Zl)=>
       (some (r72.2 == (0:Int))).bind fun(b90:Bool)=>
       (if b90=true then
        (some (Zcp r70 g)).bind fun(b92:Bool)=>
        some (b92 || (Zff r72.1 v81))
        else some false).bind fun(v94:Bool)=>
       (some v94).bind fun(b96:Bool)=>
       (if b96=true then
        (Zdt).bind fun(r98:Bool)=>
        some r98
        else some false).bind fun(v100:Bool)=>
       some v100)=some true:=by
 have hsane:Zdt=some true:=rfl
 rw [bindC (Zkw hl hin hg),bindC (Zkw hl hin hh)]
 have so:=(st_ok l).1
 by_cases hz:(st l).2=0
 ·have r1:∀ p,rkA l p=(cN (R ((st l).1.map toL) p),0):=fun p=>by unfold rkA; rw [if_neg (by simp [hz])]
  have hms:mem (st l).1 (pt g)=mem (l.filter vB) (pt g):=(st_ok l).2 hz _ (pt_ok hg)
  have hV:=V_vs so.vs
  obtain⟨g0,g1⟩:=R_vs so.vs (pt_ok hg)
  obtain⟨h0,h1⟩:=R_vs so.vs (pt_ok hh)
  have b0:=b1_01 (mem (st l).1 (pt g))
  have b0':=b1_01 (mem (st l).1 (pt h))
  have hle:R ((st l).1.map toL) (pt g)≤R ((st l).1.map toL) (pt h)∧(g ≠ h→R ((st l).1.map toL) (pt g) + b1 (mem (st l).1 (pt g))≤R ((st l).1.map toL) (pt h)):=by
   rcases hgh with rfl | hlt
   ·exact⟨Int.le_refl _,fun h=>absurd rfl h⟩
   ·have:=Zrr tops5 Zhc so.vs.cf (pt_ok hg) (pt_ok hh) hlt
    have:R ((st l).1.map toL) (pt g) + b1 (mem (st l).1 (pt g))≤R ((st l).1.map toL) (pt h):=this
    exact⟨by omega,fun _=>this⟩
  have hd:0≤g.DstPort∧g.DstPort≤65535:=(hv_ok hg).h4
  rw [r1,r1]
  simp only [Option.bind_some,bne_self_eq_false,Bool.or_self,Bool.false_eq_true,if_false]
  rw [Zsz (cN_ok g0 (by omega)) (cN_ok h0 (by omega)),cN_num,cN_num]
  simp only [Option.bind_some]
  rw [if_neg (by unfold cmp3; split <;> (try split) <;> simp <;> omega)]
  have hc3:Zcp g h=false→mem (st l).1 (pt g)=true→decide (cmp3 (R ((st l).1.map toL) (pt g)) (R ((st l).1.map toL) (pt h)) ≥ (0:Int))=false:=fun e hm=>by
   have hne:g ≠ h:=fun x=>by rw [x] at e; obtain⟨a,b,c,d,f⟩:=h; simp [Zcp] at e
   have:=hle.2 hne
   rw [hm] at this
   have hb:b1 true=1:=rfl
   rw [cmp3,if_pos (by omega)]
   rfl
  have hrest:((Zc7 g (4:Int) (IntKind.wrap .u32 ((IntKind.wrap .u32 g.DstPort) + (1:Int)))).bind fun(r70:Zi)=>
      (Zb1 l r70).bind fun(r72:(Zl × Int))=>
      ((Zbm l g).bind fun(r83:Bool)=>
      if r83=true then
       (Zb8 (1:Int)).bind fun(r85:Zl)=>
       (Zca (cN (R ((st l).1.map toL) (pt g))) r85).bind fun(r87:Zl)=>
       some r87
      else
       some (cN (R ((st l).1.map toL) (pt g)))).bind fun(v81:Zl)=>
       (some (r72.2 == (0:Int))).bind fun(b90:Bool)=>
       (if b90=true then
        (some (Zcp r70 g)).bind fun(b92:Bool)=>
        some (b92 || (Zff r72.1 v81))
        else some false).bind fun(v94:Bool)=>
       (some v94).bind fun(b96:Bool)=>
       (if b96=true then
        (Zdt).bind fun(r98:Bool)=>
        some r98
        else some false).bind fun(v100:Bool)=>
       some v100)=some true:=by
   have hw:Zc7 g 4 (IntKind.wrap .u32 ((IntKind.wrap .u32 g.DstPort) + (1:Int)))=some (if g.DstPort + 1≤65535 then hdr ((hv g).set 4 (g.DstPort + 1)) else g):=by
    rw [wu32 (x:=g.DstPort) (by omega) (by omega),wu32 (by omega) (by omega)]
    exact Zt1 hg (f:=4) (by omega) (by omega)
   have hv81:((Zbm l g).bind fun(r83:Bool)=>
      if r83=true then
       (Zb8 (1:Int)).bind fun(r85:Zl)=>
       (Zca (cN (R ((st l).1.map toL) (pt g))) r85).bind fun(r87:Zl)=>
       some r87
      else
       some (cN (R ((st l).1.map toL) (pt g))))=some (cN (R ((st l).1.map toL) (pt g) + b1 (mem (st l).1 (pt g)))):=by
    rw [Zls hg (by omega),← hms]
    simp only [Option.bind_some]
    cases mem (st l).1 (pt g) with
    | false=>rw [if_neg (by decide),show b1 false=0 from rfl,Int.add_zero]
    | true=>
     rw [if_pos rfl,show Zb8 1=some (cN 1) from rfl]
     simp only [Option.bind_some]
     rw [Zn9 g0 (by omega) (by omega)]
     rfl
   rw [bindC hw]
   by_cases hle':g.DstPort + 1≤65535
   ·rw [if_pos hle']
    have hv':=(hv_ok hg).set (k:=4) (by omega) (by omega) (x:=g.DstPort + 1) (by omega) hle'
    rw [bindC (Zkw hl hin (hdr_ok hv')),bindC hv81,r1]
    have e:pt (hdr ((hv g).set 4 (g.DstPort + 1)))=inc (pt g):=rfl
    have ri:R ((st l).1.map toL) (inc (pt g))=R ((st l).1.map toL) (pt g) + b1 (mem (st l).1 (pt g)):=Zqh tops5 Zhc so.vs.cf (pt_ok hg) (by unfold pt; simp)
    rw [e,ri]
    simp only [Option.bind_some,beq_self_eq_true,Zux,decide_true,Bool.or_true,if_true,hsane]
   ·rw [if_neg hle']
    have eg:Zcp g g=true:=by obtain⟨a,b,c,d,f⟩:=g; simp [Zcp]
    rw [bindC (Zkw hl hin hg),bindC hv81,r1]
    simp only [Option.bind_some,beq_self_eq_true,eg,Bool.true_or,if_true,hsane]
  rw [Zls hg (by omega)] at hrest ⊢
  rw [← hms] at hrest ⊢
  cases he:Zcp g h with
  | true=>
   simp only [Option.bind_some,Bool.not_true,Bool.false_eq_true,if_false] at hrest ⊢
   exact hrest
  | false=>
   cases hm:mem (st l).1 (pt g) with
   | false=>
    rw [hm] at hrest
    simp only [Option.bind_some,Bool.not_false,Bool.false_eq_true,if_false,if_true] at hrest ⊢
    exact hrest
   | true=>
    rw [hm] at hrest
    simp only [Option.bind_some,Bool.not_false,Bool.false_eq_true,if_false,if_true,hc3 he hm] at hrest ⊢
    exact hrest
 ·have e3:∀ p,(rkA l p).2=3:=fun p=>by
   unfold rkA
   rw [if_pos (by simpa using hz)]
   show (st l).2=3
   rw [so.three hz]
  rw [e3,e3]
  simp only [Option.bind_some,hsane]
  rfl
theorem Zi2 {t:List Int} {g h:Zi} (ht:Zl1 t) (hg:Z6 g) (hh:Z6 h):Zc0 t g h=some true:=by
 refine Ok.eq ?_
 unfold Zc0
 refine Ok.bind (New_ok (Zue ht)) fun r1 h1=>Ok.bind (Zte true h1 (by omega) (by omega)) fun r3 ⟨c1,c2,c3⟩=>?_
 have hin:∀ x∈r3.1,BIn x:=fun x hx=>(c1 x hx).1
 refine Ok.bind (p:=fun o=>Z6 o.1∧Z6 o.2.1) ?_ fun o ⟨o1,o2⟩=>?_
 ·refine Ok.bind (Zcu c3 2 (by omega) (by omega)) fun r17 ⟨_,h17⟩=>Ok.ite (fun _=>?_) fun _=>Ok.ret ⟨hg,hh⟩
  exact Ok.bind (Zrs h17 hin (by omega)) fun r19 ⟨n1,n2⟩=>Ok.bind (Zrs n2 hin (by omega)) fun r21 ⟨n3,n4⟩=>Ok.ret ⟨n1,n3⟩
 ·obtain⟨g',h',t'⟩:=o
  simp only at o1 o2 ⊢
  obtain⟨r,e,k1,k2⟩:=Zt0 o1 o2
  rw [bindC e]
  by_cases hr:r > 0
  ·rw [if_pos (decide_eq_true hr)]
   exact Ok.of_eq (Zo0 (by omega) hin o2 o1 (Or.inr (k1 hr)))
  ·rw [if_neg (by simpa using hr)]
   exact Ok.of_eq (Zo0 (by omega) hin o1 o2 (k2 hr))
end Go.AM

/- Parts of a proof, printed short. No condition. -/
import Derived.Sort.AssemblyPlain
import Derived.Sort.LotD5
import Derived.Test.YtkeeaccnnljimaaGreatDoorGaQ5
set_option maxRecDepth 100000
namespace Go.AM
open Go
def runC (g:Int→List (List api_Range)):List Cell→List Int→List Cell
 | c,p :: q :: ps=>runC g (joinC c p (q - 1) (g p)) (q :: ps)
 | c,[_]=>c
 | c,[]=>c
theorem flt_one (r:api_Range) (rest:List (List api_Range)):(flt [(r,rest)]).length=rest.length:=by
 simp [flt]
theorem join_size (c:List Cell) (lo hi:Int) (rest:List (List api_Range)):(flt c).length≤(flt (joinC c lo hi rest)).length∧(flt (joinC c lo hi rest)).length≤(flt c).length + rest.length:=by
 unfold joinC
 split
 ·omega
 ·split
  ·rename_i y hl
   obtain ⟨d,rfl⟩:=List.getLast?_eq_some_iff.1 hl
   split
   ·rename_i hj
    rw [List.dropLast_concat,flt_app,flt_app,List.length_append,List.length_append,flt_one]
    obtain ⟨yr,yrest⟩:=y
    rw [flt_one]
    have:=congrArg List.length hj.2
    simp only at this ⊢
    omega
   ·rw [flt_app (d++[y]),List.length_append,flt_one]; omega
  ·rw [flt_app,List.length_append,flt_one]; omega
theorem runC_size (g:Int→List (List api_Range)):∀ (ps:List Int) (c:List Cell),(flt c).length≤(flt (runC g c ps)).length
 | [],_=>Nat.le_refl _
 | [_],_=>Nat.le_refl _
 | p :: q :: ps,c=>Nat.le_trans (join_size c p (q - 1) (g p)).1 (runC_size g (q :: ps) _)
def Steps (g:Int→List (List api_Range)):List Int→Prop
 | p :: q :: ps=>p<q∧(∀ v,p≤v→v<q→g v=g p)∧Steps g (q :: ps)
 | [_]=>True
 | []=>False
theorem Upto.run {g:Int→List (List api_Range)}:∀ {ps:List Int} {p:Int} {c:List Cell},0≤p→Steps g (p :: ps)→Upto g p c→∃ q,(p :: ps).getLast? = some q∧Upto g q (runC g c (p :: ps))
 | [],p,c,_,_,h=>⟨p,rfl,h⟩
 | q :: ps,p,c,h0,hs,h=>by
  obtain ⟨h1,h2,h3⟩:=hs
  obtain ⟨z,hz,hu⟩:=Upto.run (ps:=ps) (p:=q) (by omega) h3 (h.step h0 h1 h2)
  exact ⟨z,by rw [List.getLast?_cons_cons]; exact hz,hu⟩
theorem runC_eq {g:Int→List (List api_Range)} {t:Int} {c:List Cell} {ps:List Int} (hs:Steps g (0 :: ps)) (hl:(0 :: ps).getLast? = some (t + 1)) (ho:Ord t c) (hg:∀ v,0≤v→v≤t→lk c v=g v):runC g [] (0 :: ps)=c:=by
 obtain ⟨q,h1,h2⟩:=Upto.run (Int.le_refl 0) hs (Upto.nil g)
 rw [hl,Option.some.injEq] at h1
 subst h1
 refine Ord.inj (h2.ord.mono (t':=t) (by omega)) ho fun v=>?_
 rw [h2.at_]
 by_cases hv:0≤v∧v<t + 1
 ·rw [if_pos hv,hg v hv.1 (by omega)]
 ·rw [if_neg hv,lk_out ho (by omega)]
def Cut (ps:List Int) (l:List (List api_Range)):Prop:=∀ b∈l,∀ r b',b=r :: b'→r.Lo∈ps∧r.Hi + 1∈ps
theorem atv_step {l:List (List api_Range)} {p q:Int} (h:∀ b∈l,∀ r b',b=r :: b'→¬ (p<r.Lo∧r.Lo<q)∧¬ (p<r.Hi + 1∧r.Hi + 1<q)) {v:Int} (h1:p≤v) (h2:v<q):atv l v=atv l p:=by
 unfold atv
 induction l with
 | nil=>rfl
 | cons b l ih=>
  rw [List.flatMap_cons,List.flatMap_cons,ih fun x hx=>h x (List.mem_cons_of_mem _ hx)]
  congr 1
  cases b with
  | nil=>rfl
  | cons r b=>
   have hb:=h (r :: b) (List.mem_cons_self ..) r b rfl
   have:inR v r=inR p r:=by
    rw [Bool.eq_iff_iff,inR_iff,inR_iff]
    omega
   simp only [this]
theorem pairs_between:∀ {ps:List Int},ps.Pairwise (·<·)→∀ {i:Nat} (h:i + 1<ps.length),∀ x∈ps,¬ (ps[i]<x∧x<ps[i + 1]):=by
 intro ps hp i h x hx hc
 obtain ⟨j,hj,rfl⟩:=List.getElem_of_mem hx
 have hm:=List.pairwise_iff_getElem.1 hp
 rcases Nat.lt_trichotomy j i with h1 | h1 | h1
 ·have:=hm j i hj (by omega) h1; omega
 ·subst h1; omega
 ·rcases Nat.lt_or_eq_of_le (show i + 1≤j by omega) with h2 | h2
  ·have:=hm (i + 1) j (by omega) hj h2; omega
  ·subst h2; omega
theorem steps_of {g:Int→List (List api_Range)}:∀ {ps:List Int},ps ≠ []→ps.Pairwise (·<·)→(∀ i (h:i + 1<ps.length),∀ v,ps[i]≤v→v<ps[i + 1]→g v=g ps[i])→Steps g ps
 | [],h,_,_=>h rfl
 | [_],_,_,_=>trivial
 | p :: q :: ps,_,hp,hg=>by
  refine ⟨(List.pairwise_cons.1 hp).1 q (List.mem_cons_self ..),fun v h1 h2=>hg 0 (by simp) v h1 h2,steps_of (List.cons_ne_nil _ _) (List.pairwise_cons.1 hp).2 fun i h v h1 h2=>?_⟩
  have:=hg (i + 1) (by simp at h ⊢; omega) v
  simpa using this h1 h2
structure Nx (t:Int) (ts:List Int) (last:Option Cell) (c:List Cell):Prop where
 ord:Ord t c
 cf:∀ x∈c,CF ts x.2
 gap:∀ y∈last,∀ x∈c,gp y x
theorem Nx.nil (t:Int) (ts:List Int) (last:Option Cell):Nx t ts last []:=⟨⟨List.Pairwise.nil,fun _ h=>(by cases h)⟩,fun _ h=>(by cases h),fun _ _ _ h=>(by cases h)⟩
theorem CF_iff {t:Int} {ts:List Int} {l:List (List api_Range)}:CF (t :: ts) l ↔ ∃ c,l=flt c∧Nx t ts none c:=
 ⟨fun ⟨c,h1,h2,h3⟩=>⟨c,h1,h2,h3,fun _ h=>(by cases h)⟩,fun ⟨c,h1,h2⟩=>⟨c,h1,h2.ord,h2.cf⟩⟩
theorem Nx.run {t:Int} {ts:List Int} {last:Option Cell} {r:api_Range} {run:List (List api_Range)} {l:List (List api_Range)} (hrun:run ≠ []) (hl:∀ b,l.head? = some b→∃ r' b',b=r' :: b'∧r' ≠ r) :
  (∃ c,run.map (r :: ·)++l=flt c∧Nx t ts last c) ↔ (0≤r.Lo∧r.Lo≤r.Hi∧r.Hi≤t)∧CF ts run∧(∀ y∈last,gp y (r,run))∧∃ c,l=flt c∧Nx t ts (some (r,run)) c:=by
 constructor
 ·rintro ⟨c,hc,hn⟩
  cases c with
  | nil=>
   have:run.map (r :: ·)=[]:=(List.append_eq_nil_iff.1 hc).1
   simp at this
   exact absurd this hrun
  | cons x c=>
   rw [flt_cons] at hc
   have hx:=hn.ord.ok x (List.mem_cons_self ..)
   have hp:=List.pairwise_cons.1 hn.ord.pw
   have key:∀ (u w:List (List api_Range)) (l l':List (List api_Range)),u ≠ []→w ≠ []→(∀ b,l.head? = some b→∃ r' b',b=r' :: b'∧r' ≠ r)→(∀ b,l'.head? = some b→∃ r' b',b=r' :: b'∧r' ≠ x.1) →
     u.map (r :: ·)++l=w.map (x.1 :: ·)++l'→r=x.1∧u=w∧l=l':=by
    intro u w l l' hu hw g1 g2 he
    have hr:r=x.1:=by
     cases u with
     | nil=>exact absurd rfl hu
     | cons b u=>cases w with
      | nil=>exact absurd rfl hw
      | cons d w=>
       simp only [List.map_cons,List.cons_append,List.cons.injEq] at he
       exact he.1.1
    refine ⟨hr,?_⟩
    rw [← hr] at he g2
    clear hu hw
    induction u generalizing w with
    | nil=>cases w with
     | nil=>exact ⟨rfl,by simpa using he⟩
     | cons d w=>
      simp only [List.map_nil,List.nil_append,List.map_cons,List.cons_append] at he
      obtain ⟨r',b',e1,e2⟩:=g1 (r :: d) (by rw [he]; rfl)
      simp only [List.cons.injEq] at e1
      exact absurd e1.1.symm e2
    | cons b u ih=>cases w with
     | nil=>
      simp only [List.map_nil,List.nil_append,List.map_cons,List.cons_append] at he
      obtain ⟨r',b',e1,e2⟩:=g2 (r :: b) (by rw [← he]; rfl)
      simp only [List.cons.injEq] at e1
      exact absurd e1.1.symm e2
     | cons d w=>
      simp only [List.map_cons,List.cons_append,List.cons.injEq,true_and] at he
      obtain ⟨i1,i2⟩:=ih w he.2
      exact ⟨by rw [he.1,i1],i2⟩
   have hnext:∀ b,(flt c).head? = some b→∃ r' b',b=r' :: b'∧r' ≠ x.1:=by
    intro b hb
    cases c with
    | nil=>simp [flt] at hb
    | cons z c=>
     have hz:=hn.ord.ok z (List.mem_cons_of_mem _ (List.mem_cons_self ..))
     rw [flt_cons] at hb
     cases hz2:z.2 with
     | nil=>exact absurd hz2 hz.2.2.2
     | cons d w=>
      rw [hz2] at hb
      simp only [List.map_cons,List.cons_append,List.head?_cons,Option.some.injEq] at hb
      refine ⟨z.1,d,hb.symm,fun e=>?_⟩
      have:=(hp.1 z (List.mem_cons_self ..)).1
      rw [e] at this
      omega
   obtain ⟨e1,e2,e3⟩:=key run x.2 l (flt c) hrun hx.2.2.2 hl hnext hc
   subst e1 e2 e3
   exact ⟨⟨hx.1,hx.2.1,hx.2.2.1⟩,hn.cf x (List.mem_cons_self ..),fun y hy=>hn.gap y hy x (List.mem_cons_self ..),c,rfl,hn.ord.tail,fun z hz=>hn.cf z (List.mem_cons_of_mem _ hz),fun y hy z hz=>by
    have:x=y:=by simpa using hy
    subst this
    exact hp.1 z hz⟩
 ·rintro ⟨h1,h2,h3,c,rfl,hn⟩
  refine ⟨(r,run) :: c,rfl,⟨List.pairwise_cons.2 ⟨fun z hz=>hn.gap _ rfl z hz,hn.ord.pw⟩,fun x hx=>?_⟩,fun x hx=>?_,fun y hy x hx=>?_⟩
  ·rcases List.mem_cons.1 hx with rfl | hx
   ·exact ⟨h1.1,h1.2.1,h1.2.2,hrun⟩
   ·exact hn.ord.ok x hx
  ·rcases List.mem_cons.1 hx with rfl | hx
   ·exact h2
   ·exact hn.cf x hx
  ·rcases List.mem_cons.1 hx with rfl | hx
   ·exact h3 y hy
   ·have g1:=h3 y hy
    have g2:=hn.gap _ rfl x hx
    have g3:=g1.1
    have g4:=g2.1
    simp only at g3 g4
    exact ⟨by omega,fun e=>by omega⟩
end Go.AM
set_option maxRecDepth 100000
namespace Go.AM
open Go
theorem idxn_arr {d:Array Int} {n i:Nat} (hn:d.size=n) (h:i<n):idxn n d.toList (i:Int)=some d[i]!:=by
 have hi:i<d.size:=by omega
 unfold idxn
 rw [if_pos ⟨by omega,by omega⟩]
 simp [AM.idx,hi]
theorem setl_arr (d:Array Int) (i:Nat) (x:Int):d.toList.set i x=(d.setIfInBounds i x).toList:=by simp
theorem idxn_set {d:Array Int} {n i j:Nat} {x:Int} (hn:d.size=n) (h:j<n):∃ y,idxn n (d.toList.set i x) (j:Int)=some y:=by
 rw [setl_arr]
 exact ⟨_,idxn_arr (by simpa using hn) h⟩
theorem swp_arr (d:Array Int) (i j:Nat):(d.toList.set i d[j]!).set j d[i]! = (Sort.swp d i j).toList:=by
 unfold Sort.swp; simp
theorem swp_sz (d:Array Int) (i j:Nat):(Sort.swp d i j).size=d.size:=Sort.swp_size d i j
theorem Less_eq (x y:Int):Zz x y=some (Sort.ltInt x y):=by
 unfold Zz Zd2 Sort.ltInt
 simp
abbrev sB:Nat:=1000000000
theorem wpred {j:Nat} (h:j + 1<1000000000000):IntKind.wrap .i64 (((j + 1:Nat):Int) - (1:Int))=(j:Int):=by
 rw [wi64 (by omega) (by omega)]; omega
theorem wsuc {j:Nat} (h:j + 1<1000000000000):IntKind.wrap .i64 ((j:Int) + (1:Int))=((j + 1:Nat):Int):=by
 rw [wi64 (by omega) (by omega)]; omega
theorem wadd {i j:Nat} (h:i + j<1000000000000):IntKind.wrap .i64 ((i:Int) + (j:Int))=((i + j:Nat):Int):=by
 rw [wi64 (by omega) (by omega)]; omega
theorem wsub {i j:Nat} (h:i<1000000000000) (hj:j≤i):IntKind.wrap .i64 ((i:Int) - (j:Int))=((i - j:Nat):Int):=by
 rw [wi64 (by omega) (by omega)]; omega
theorem insInner_eq {n a:Nat} (hB:n≤sB):∀ (j m:Nat) (d:Array Int),d.size=n→j<n→j<m→Z6 n (a:Int) m d.toList (j:Int)=some (Sort.insInner Sort.ltInt a j d).toList
 | 0,m + 1,d,hd,hj,hm=>by
  rw [Z6,decide_eq_false (by omega)]
  simp [Sort.insInner]
 | j + 1,m + 1,d,hd,hj,hm=>by
  have ih:=insInner_eq (a:=a) hB j m
  rw [Z6,Sort.insInner]
  unfold sB at hB
  simp only [wpred (show j + 1<1000000000000 by omega),idxn_arr hd hj,idxn_arr hd (show j<n by omega),Option.bind_some,Less_eq,Int.toNat_natCast]
  by_cases h:j + 1 > a
  ·have h':((j + 1:Nat):Int) > (a:Int):=by omega
   simp only [decide_eq_true h,decide_eq_true h',if_true,Option.bind_some,Bool.true_and]
   cases hl:Sort.ltInt d[j + 1]! d[j]! with
   | false=>simp
   | true=>
    obtain ⟨y,hy⟩:=idxn_set (i:=j + 1) (x:=d[j]!) hd (show j<n by omega)
    simp only [if_true,hy,Option.bind_some,swp_arr]
    exact ih _ (by rw [swp_sz,hd]) (by omega) (by omega)
  ·have h':¬ ((j + 1:Nat):Int) > (a:Int):=by omega
   rw [decide_eq_false h,decide_eq_false h']
   simp
theorem insOuter_eq {n a b:Nat} (hB:n≤sB) (hb:b≤n):∀ (k i m:Nat) (d:Array Int),d.size=n→b - i=k→k<m→i≤sB + 1→Z7 n (a:Int) (b:Int) m d.toList (i:Int)=some (Sort.insOuter Sort.ltInt a b i d).toList:=by
 unfold sB at hB
 intro k
 induction k with
 | zero=>
  intro i m d hd hk hm hi
  cases m with
  | zero=>omega
  | succ m=>
  rw [Z7,Sort.insOuter,if_neg (by simp; omega),if_neg (by omega)]
 | succ k ih=>
  intro i m d hd hk hm hi
  cases m with
  | zero=>omega
  | succ m=>
  rw [Z7,Sort.insOuter,if_pos (by simp; omega),if_pos (by omega)]
  rw [insInner_eq (a:=a) (show n≤sB by unfold sB; omega) i fuel d hd (by omega) (by unfold fuel; omega)]
  simp only [Option.bind_some]
  unfold sB at hi
  rw [wsuc (by omega)]
  refine ih (i + 1) m _ ?_ (by omega) (by omega) (by unfold sB; omega)
  exact insInner_sz _ _ hd
where
 insInner_sz {n a:Nat}:∀ (j:Nat) (d:Array Int),d.size=n→(Sort.insInner Sort.ltInt a j d).size=n
  | 0,d,hd=>hd
  | j + 1,d,hd=>by
   rw [Sort.insInner]
   split
   ·exact insInner_sz j _ (by rw [swp_sz,hd])
   ·exact hd
theorem insertionSort_eq {n a b:Nat} (hB:n≤sB) (hb:b≤n) (hab:a≤b) {d:Array Int} (hd:d.size=n):Zbd n d.toList (a:Int) (b:Int)=some (Sort.insertionSort Sort.ltInt d a b).toList:=by
 unfold Zbd Sort.insertionSort
 have h:(a:Int) + 1=((a + 1:Nat):Int):=by omega
 unfold sB at hB
 rw [wsuc (by omega),insOuter_eq (show n≤sB by unfold sB; omega) hb (b - (a + 1)) (a + 1) fuel d hd rfl (by unfold fuel; omega) (by unfold sB; omega)]
 rfl
def sTail (a0:Nat) (a3 a4:Int) (n95:Nat) (v46:List Int) (v47 v109:Int):Option (List Int ⊕ List Int):=
    (idxn a0 v46 (IntKind.wrap .i64 (a4 + v47))).bind fun (x124:Int)=>
    (idxn a0 v46 (IntKind.wrap .i64 (a4 + v109))).bind fun (x126:Int)=>
    (Zz x124 x126).bind fun (r128:Bool)=>
    if (!r128)=true then
     some (.inr v46)
    else
     (idxn a0 v46 (IntKind.wrap .i64 (a4 + v109))).bind fun (x130:Int)=>
     (idxn a0 v46 (IntKind.wrap .i64 (a4 + v47))).bind fun (x132:Int)=>
     (idxn a0 v46 (IntKind.wrap .i64 (a4 + v47))).bind fun (_:Int)=>
     (idxn a0 (List.set v46 (Int.toNat (IntKind.wrap .i64 (a4 + v47))) x130) (IntKind.wrap .i64 (a4 + v109))).bind fun (_:Int)=>
     Z2 a0 a3 a4 n95 (List.set (List.set v46 (Int.toNat (IntKind.wrap .i64 (a4 + v47))) x130) (Int.toNat (IntKind.wrap .i64 (a4 + v109))) x132) v109
def outS (l:List Int) (o:List Int ⊕ List Int):Prop:=o=.inl l∨o=.inr l
theorem sTail_eq {n hi first root c m:Nat} (hB:n≤sB) (hf:first + hi≤n) (hr:root<hi) (hc:c<hi) {d:Array Int} (hd:d.size=n) {r:Array Int}
  (ih:Sort.ltInt d[first + root]! d[first + c]! = true→Ok (Z2 n (hi:Int) (first:Int) m (Sort.swp d (first + root) (first + c)).toList (c:Int)) (outS r.toList)) (hs:Sort.ltInt d[first + root]! d[first + c]! = false→r=d) :
  Ok (sTail n (hi:Int) (first:Int) m d.toList (root:Int) (c:Int)) (outS r.toList):=by
 unfold sB at hB
 unfold sTail
 rw [wadd (i:=first) (j:=root) (by omega),wadd (i:=first) (j:=c) (by omega)]
 simp only [idxn_arr hd (show first + root<n by omega),idxn_arr hd (show first + c<n by omega),Option.bind_some,Less_eq,Int.toNat_natCast]
 cases hl:Sort.ltInt d[first + root]! d[first + c]! with
 | false=>rw [hs hl]; exact ⟨_,rfl,Or.inr rfl⟩
 | true=>
  obtain ⟨y,hy⟩:=idxn_set (i:=first + root) (x:=d[first + c]!) hd (show first + c<n by omega)
  simp only [Bool.not_true,Bool.false_eq_true,if_false,hy,Option.bind_some,swp_arr]
  exact ih hl
theorem siftDown_eq {n hi first:Nat} (hB:n≤sB) (hf:first + hi≤n):∀ (k root m:Nat) (d:Array Int),d.size=n→hi - root≤k→k<m→root≤n →
  Ok (Z2 n (hi:Int) (first:Int) m d.toList (root:Int)) (outS (Sort.siftDown Sort.ltInt hi first root d).toList):=by
 intro k
 induction k with
 | zero=>
  intro root m d hd hk hm hr
  cases m with
  | zero=>omega
  | succ m=>
  unfold sB at hB
  rw [Z2,Sort.siftDown,dif_pos (by omega),if_pos]
  ·exact ⟨_,rfl,Or.inl rfl⟩
  ·rw [wi64 (x:=2 * (root:Int)) (by omega) (by omega),wi64 (by omega) (by omega)]; exact decide_eq_true (by omega)
 | succ k ih=>
  intro root m d hd hk hm hr
  cases m with
  | zero=>omega
  | succ m=>
  have hB':=hB
  unfold sB at hB
  have e1:IntKind.wrap .i64 (IntKind.wrap .i64 (2 * (root:Int)) + 1)=((2 * root + 1:Nat):Int):=by
   rw [wi64 (x:=2 * (root:Int)) (by omega) (by omega),wi64 (by omega) (by omega)]; omega
  rw [Z2,Sort.siftDown]
  rw [e1]
  by_cases h:2 * root + 1 ≥ hi
  ·rw [dif_pos h,if_pos (decide_eq_true (by omega))]
   exact ⟨_,rfl,Or.inl rfl⟩
  ·rw [dif_neg h,if_neg (by simp; omega)]
   have hst:∀ c:Nat,c<hi→root<c→Ok (sTail n (hi:Int) (first:Int) m d.toList (root:Int) (c:Int)) (outS (if (!Sort.ltInt d[first + root]! d[first + c]!)=true then d else Sort.siftDown Sort.ltInt hi first c (Sort.swp d (first + root) (first + c))).toList):=fun c hc hrc=>by
    refine sTail_eq hB' hf (by omega) hc hd (fun hl=>?_) (fun hl=>?_)
    ·rw [hl]
     simp only [Bool.not_true,Bool.false_eq_true,if_false]
     exact ih c m _ (by rw [swp_sz,hd]) (by omega) (by omega) (by omega)
    ·rw [hl]; rfl
   have e2:IntKind.wrap .i64 (((2 * root + 1:Nat):Int) + 1)=((2 * root + 2:Nat):Int):=wsuc (by omega)
   have e3:IntKind.wrap .i64 (IntKind.wrap .i64 ((first:Int) + ((2 * root + 1:Nat):Int)) + 1)=((first + (2 * root + 1) + 1:Nat):Int):=by
    rw [wadd (by omega)]; exact wsuc (by omega)
   have e4:IntKind.wrap .i64 ((first:Int) + ((2 * root + 1:Nat):Int))=((first + (2 * root + 1):Nat):Int):=wadd (by omega)
   rw [e2,e3,e4]
   by_cases h2:2 * root + 1 + 1<hi
   ·have h2':((2 * root + 2:Nat):Int)<(hi:Int):=by omega
    simp only [decide_eq_true h2,decide_eq_true h2',Option.bind_some,if_true,idxn_arr hd (show first + (2 * root + 1)<n by omega),idxn_arr hd (show first + (2 * root + 1) + 1<n by omega),Less_eq,Bool.true_and]
    cases hl:Sort.ltInt d[first + (2 * root + 1)]! d[first + (2 * root + 1) + 1]! with
    | false=>
     simp only [Bool.false_eq_true,if_false,Option.bind_some]
     have q:=hst (2 * root + 1) (by omega) (by omega)
     simp only [sTail,Less_eq,Option.bind_some] at q
     exact q
    | true=>
     simp only [if_true,Option.bind_some,dif_pos (show 2 * root + 2<hi from h2)]
     have q:=hst (2 * root + 2) (by omega) (by omega)
     simp only [sTail,Less_eq,Option.bind_some] at q
     exact q
   ·have h2':¬ ((2 * root + 2:Nat):Int)<(hi:Int):=by omega
    simp only [decide_eq_false h2,decide_eq_false h2',Option.bind_some,Bool.false_eq_true,if_false,Bool.false_and]
    exact hst (2 * root + 1) (by omega) (by omega)
theorem sift_sz {n hi first:Nat}:∀ (k root:Nat) (d:Array Int),d.size=n→hi - root≤k→(Sort.siftDown Sort.ltInt hi first root d).size=n:=by
 intro k
 induction k with
 | zero=>intro root d hd hk; rw [Sort.siftDown,dif_pos (by omega)]; exact hd
 | succ k ih=>
  intro root d hd hk
  rw [Sort.siftDown]
  split
  ·exact hd
  ·split
   ·split
    ·exact hd
    ·split
     ·exact ih _ _ (by rw [swp_sz,hd]) (by omega)
     ·exact hd
   ·split
    ·exact hd
    ·exact ih _ _ (by rw [swp_sz,hd]) (by omega)
theorem siftDown_F {n hi first root:Nat} (hB:n≤sB) (hf:first + hi≤n) (hr:root≤n) {d:Array Int} (hd:d.size=n):Zbc n d.toList (root:Int) (hi:Int) (first:Int)=some (Sort.siftDown Sort.ltInt hi first root d).toList:=by
 unfold Zbc
 obtain ⟨o,e,ho⟩:=siftDown_eq hB hf (hi - root) root fuel d hd (Nat.le_refl _) (by unfold fuel; unfold sB at hB; omega) hr
 rw [e]
 rcases ho with rfl | rfl <;> rfl
theorem heapBuild_eq {n a b:Nat} (hB:n≤sB) (hab:a≤b) (hb:b≤n):∀ (k m:Nat) (d:Array Int),d.size=n→k≤n + 1→k<m →
  Zaj n (a:Int) (b:Int) m d.toList ((k:Int) - 1)=some (Sort.heapBuild Sort.ltInt (b - a) a k d).toList
 | 0,m + 1,d,hd,hk,hm=>by
  rw [Zaj,if_neg (by simp)]; rfl
 | k + 1,m + 1,d,hd,hk,hm=>by
  have hB':=hB
  unfold sB at hB
  rw [Zaj,if_pos (decide_eq_true (by omega)),show ((k + 1:Nat):Int) - 1=(k:Int) by omega,wsub (by omega) hab,siftDown_F hB' (by omega) (by omega) hd]
  simp only [Option.bind_some]
  rw [wi64 (by omega) (by omega),Sort.heapBuild]
  exact heapBuild_eq hB' hab hb k m _ (sift_sz _ _ _ hd (Nat.le_refl _)) (by omega) (by omega)
theorem heapPop_eq {n a b:Nat} (hB:n≤sB) (hb:b≤n):∀ (k m:Nat) (d:Array Int),d.size=n→a + k≤b→k<m →
  Zak n (a:Int) m d.toList ((k:Int) - 1)=some (Sort.heapPop Sort.ltInt a k d).toList
 | 0,m + 1,d,hd,hk,hm=>by
  rw [Zak,if_neg (by simp)]; rfl
 | k + 1,m + 1,d,hd,hk,hm=>by
  have hB':=hB
  unfold sB at hB
  rw [Zak,if_pos (decide_eq_true (by omega)),show ((k + 1:Nat):Int) - 1=(k:Int) by omega,wadd (by omega)]
  obtain ⟨y,hy⟩:=idxn_set (i:=a) (x:=d[a + k]!) hd (show a + k<n by omega)
  simp only [idxn_arr hd (show a + k<n by omega),idxn_arr hd (show a<n by omega),Option.bind_some,Int.toNat_natCast,hy,swp_arr]
  have e:=siftDown_F (root:=0) (hi:=k) (first:=a) hB' (by omega) (by omega) (show (Sort.swp d a (a + k)).size=n by rw [swp_sz,hd])
  rw [show ((0:Nat):Int)=0 from rfl] at e
  rw [e]
  simp only [Option.bind_some]
  rw [wi64 (by omega) (by omega),Sort.heapPop]
  exact heapPop_eq hB' hb k m _ (sift_sz _ _ _ (by rw [swp_sz,hd]) (Nat.le_refl _)) (by omega) (by omega)
theorem hBuild_sz {n hi first:Nat}:∀ (k:Nat) (d:Array Int),d.size=n→(Sort.heapBuild Sort.ltInt hi first k d).size=n
 | 0,_,hd=>hd
 | k + 1,d,hd=>by rw [Sort.heapBuild]; exact hBuild_sz k _ (sift_sz _ _ _ hd (Nat.le_refl _))
theorem heapSort_eq {n a b:Nat} (hB:n≤sB) (hab:a<b) (hb:b≤n) {d:Array Int} (hd:d.size=n):Zbt n d.toList (a:Int) (b:Int)=some (Sort.heapSort Sort.ltInt d a b).toList:=by
 have hB':=hB
 unfold sB at hB
 unfold Zbt Sort.heapSort
 have e:IntKind.wrap .i64 (Int.tdiv (IntKind.wrap .i64 (IntKind.wrap .i64 ((b:Int) - (a:Int)) - 1)) 2)=(((b - a - 1) / 2 + 1:Nat):Int) - 1:=by
  rw [wsub (by omega) (by omega),wi64 (x:=((b - a:Nat):Int) - 1) (by omega) (by omega)]
  rw [Int.tdiv_eq_ediv_of_nonneg (by omega),wi64 (by omega) (by omega)]
  omega
 rw [e,heapBuild_eq hB' (by omega) hb _ _ _ hd (by omega) (by unfold fuel; omega)]
 simp only [Option.bind_some]
 rw [wsub (by omega) (by omega),wi64 (x:=((b - a:Nat):Int) - 1) (by omega) (by omega),heapPop_eq hB' hb (b - a) fuel _ (hBuild_sz _ _ hd) (by omega) (by unfold fuel; omega)]
 rfl
end Go.AM
set_option maxRecDepth 100000
namespace Go.AM
open Go
theorem reverse_eq {n:Nat} (hB:n≤sB):∀ (k i j m:Nat) (d:Array Int),d.size=n→j - i≤k→k<m→j<n→i≤n →
  Z8 n m d.toList (i:Int) (j:Int)=some (Sort.reverseLoop i j d).toList:=by
 intro k
 induction k with
 | zero=>
  intro i j m d hd hk hm hj hi
  cases m with
  | zero=>omega
  | succ m=>rw [Z8,Sort.reverseLoop,if_neg (by simp; omega),if_neg (by omega)]
 | succ k ih=>
  intro i j m d hd hk hm hj hi
  cases m with
  | zero=>omega
  | succ m=>
  have hB':=hB
  unfold sB at hB
  rw [Z8,Sort.reverseLoop]
  by_cases h:i<j
  ·rw [if_pos (decide_eq_true (by omega)),if_pos h]
   obtain ⟨y,hy⟩:=idxn_set (i:=i) (x:=d[j]!) hd hj
   simp only [idxn_arr hd hj,idxn_arr hd (show i<n by omega),Option.bind_some,Int.toNat_natCast,hy,swp_arr]
   obtain ⟨j',rfl⟩:∃ j',j=j' + 1:=⟨j - 1,by omega⟩
   rw [wsuc (by omega),wpred (by omega)]
   exact ih (i + 1) j' m _ (by rw [swp_sz,hd]) (by omega) (by omega) (by omega) (by omega)
  ·rw [if_neg (by simp; omega),if_neg h]
theorem reverseRange_eq {n a b:Nat} (hB:n≤sB) (hab:a<b) (hb:b≤n) {d:Array Int} (hd:d.size=n):Zau n d.toList (a:Int) (b:Int)=some (Sort.reverseRange d a b).toList:=by
 have hB':=hB
 unfold sB at hB
 unfold Zau Sort.reverseRange
 obtain ⟨b',rfl⟩:∃ b',b=b' + 1:=⟨b - 1,by omega⟩
 rw [wpred (by omega),reverse_eq hB' (b' - a) a b' fuel d hd (Nat.le_refl _) (by unfold fuel; omega) (by omega) (by omega)]
 rfl
theorem up_eq {n a:Nat} {L:Nat→Int→Option Int} (hB:n≤sB) {d:Array Int} (p:Int→Bool) {j:Nat} (hj:j<n) (_ha:a<n)
  (step:∀ m (i:Nat),i≤sB + 1→L (m + 1) (i:Int)=if i≤j∧p d[i]! = true then L m ((i + 1:Nat):Int) else some (i:Int)) :
  ∀ (k i m:Nat),j + 1 - i≤k→k<m→i≤j + 2→L m (i:Int)=some ((Sort.scanUp p d j i:Nat):Int):=by
 unfold sB at hB
 intro k
 induction k with
 | zero=>
  intro i m hk hm hi
  cases m with
  | zero=>omega
  | succ m=>
  rw [step m i (by unfold sB; omega),if_neg (by omega),Sort.scanUp,if_neg (by simp; omega)]
 | succ k ih=>
  intro i m hk hm hi
  cases m with
  | zero=>omega
  | succ m=>
  rw [step m i (by unfold sB; omega),Sort.scanUp]
  by_cases h:i≤j∧p d[i]! = true
  ·rw [if_pos h,if_pos (by simp [h.1,h.2])]
   exact ih (i + 1) m (by omega) (by omega) (by omega)
  ·rw [if_neg h,if_neg (by simpa using h)]
theorem down_eq {n i:Nat} {L:Nat→Int→Option Int} (hi:0<i) {d:Array Int} (p:Int→Bool)
  (step:∀ m (j:Nat),j<n→L (m + 1) (j:Int)=if i≤j∧p d[j]! = true then L m ((j:Int) - 1) else some (j:Int)) :
  ∀ (j m:Nat),j<m→j<n→L m (j:Int)=some ((Sort.scanDown p d i j:Nat):Int):=by
 intro j
 induction j with
 | zero=>
  intro m hm hj
  cases m with
  | zero=>omega
  | succ m=>rw [step m 0 hj,if_neg (by omega)]; rfl
 | succ j ih=>
  intro m hm hj
  cases m with
  | zero=>omega
  | succ m=>
  rw [step m (j + 1) hj,Sort.scanDown]
  by_cases h:i≤j + 1∧p d[j + 1]! = true
  ·rw [if_pos h,if_pos (by simp [h.1,h.2]),show ((j + 1:Nat):Int) - 1=(j:Int) by omega]
   exact ih m (by omega) (by omega)
  ·rw [if_neg h,if_neg (by simpa using h)]
theorem pe2_eq {n a j:Nat} (hB:n≤sB) {d:Array Int} (hd:d.size=n) (ha:a<n) (hj:j<n) (i:Nat) (hi:i≤j + 2):Zae n (a:Int) d.toList (j:Int) fuel (i:Int)=some ((Sort.scanUp (fun x=>!Sort.ltInt d[a]! x) d j i:Nat):Int):=by
 refine up_eq hB (d:=d) (fun x=>!Sort.ltInt d[a]! x) hj ha (fun m i hi=>?_) (j + 1) i fuel (by omega) (by unfold sB at hB; unfold fuel; omega) hi
 unfold sB at hB hi
 rw [Zae]
 by_cases h:i≤j
 ·rw [decide_eq_true (show (i:Int)≤(j:Int) by omega)]
  simp only [Option.bind_some,if_true,idxn_arr hd ha,idxn_arr hd (show i<n by omega),Less_eq,wsuc (show i + 1<1000000000000 by omega),h,true_and]
 ·rw [decide_eq_false (show ¬ (i:Int)≤(j:Int) by omega)]
  simp [h]
theorem pe3_eq {n a i:Nat} (hB:n≤sB) {d:Array Int} (hd:d.size=n) (ha:a<n) (hi:0<i) (j:Nat) (hj:j<n):Zaf n (a:Int) d.toList (i:Int) fuel (j:Int)=some ((Sort.scanDown (fun x=>Sort.ltInt d[a]! x) d i j:Nat):Int):=by
 refine down_eq hi (n:=n) (d:=d) (fun x=>Sort.ltInt d[a]! x) (fun m j hj=>?_) j fuel (by unfold sB at hB; unfold fuel; omega) hj
 unfold sB at hB
 rw [Zaf]
 by_cases h:i≤j
 ·rw [decide_eq_true (show (i:Int)≤(j:Int) by omega)]
  simp only [Option.bind_some,if_true,idxn_arr hd ha,idxn_arr hd hj,Less_eq,wi64 (show -9223372036854775808≤(j:Int) - 1 by omega) (show (j:Int) - 1<9223372036854775808 by omega),h,true_and]
 ·rw [decide_eq_false (show ¬ (i:Int)≤(j:Int) by omega)]
  simp [h]
theorem pe1_eq {n a:Nat} (hB:n≤sB) (ha:a<n):∀ (k i j m:Nat) (d:Array Int),d.size=n→j + 1 - i≤k→k<m→i≤j + 2→a<i→j<n →
  Z4 n (a:Int) m d.toList (i:Int) (j:Int)=some ((Sort.partEqLoop Sort.ltInt a i j d).2.toList,((Sort.partEqLoop Sort.ltInt a i j d).1:Int)):=by
 intro k
 induction k with
 | zero=>
  intro i j m d hd hk hm hij hai hj
  cases m with
  | zero=>omega
  | succ m=>
  have h1:Sort.scanUp (fun x=>!Sort.ltInt d[a]! x) d j i=i:=by rw [Sort.scanUp,if_neg (by simp; omega)]
  have h2:Sort.scanDown (fun x=>Sort.ltInt d[a]! x) d i j≤j:=Sort.scanDown_le _ _ _ _
  rw [Z4,pe2_eq hB hd ha hj i hij,Sort.partEqLoop_eq,h1]
  simp only [Option.bind_some]
  rw [pe3_eq hB hd ha (by omega) j hj]
  simp only [Option.bind_some]
  rw [if_pos (decide_eq_true (by omega)),if_pos (by omega)]
 | succ k ih=>
  intro i j m d hd hk hm hij hai hj
  cases m with
  | zero=>omega
  | succ m=>
  have hB':=hB
  unfold sB at hB
  rw [Z4,pe2_eq hB' hd ha hj i hij,Sort.partEqLoop_eq]
  simp only [Option.bind_some]
  have g1:=Sort.scanUp_ge (fun x=>!Sort.ltInt d[a]! x) d j i
  generalize Sort.scanUp (fun x=>!Sort.ltInt d[a]! x) d j i=i2 at g1 ⊢
  rw [pe3_eq hB' hd ha (by omega) j hj]
  simp only [Option.bind_some]
  have g2:=Sort.scanDown_le (fun x=>Sort.ltInt d[a]! x) d i2 j
  generalize Sort.scanDown (fun x=>Sort.ltInt d[a]! x) d i2 j=j2 at g2 ⊢
  by_cases h:i2 > j2
  ·rw [if_pos (decide_eq_true (by omega)),if_pos h]
  ·rw [if_neg (by simp; omega),if_neg h]
   obtain ⟨y,hy⟩:=idxn_set (i:=i2) (x:=d[j2]!) hd (show j2<n by omega)
   simp only [idxn_arr hd (show j2<n by omega),idxn_arr hd (show i2<n by omega),Option.bind_some,Int.toNat_natCast,hy,swp_arr]
   obtain ⟨j',rfl⟩:∃ j',j2=j' + 1:=⟨j2 - 1,by omega⟩
   rw [wsuc (by omega),wpred (by omega)]
   exact ih (i2 + 1) j' m _ (by rw [swp_sz,hd]) (by omega) (by omega) (by omega) (by omega) (by omega)
theorem partitionEqual_eq {n a b p:Nat} (hB:n≤sB) (hb:b≤n) (hp0:a≤p) (hp:p<b) {d:Array Int} (hd:d.size=n) :
  Za9 n d.toList (a:Int) (b:Int) (p:Int)=some (((Sort.partitionEqual Sort.ltInt d a b p).1:Int),(Sort.partitionEqual Sort.ltInt d a b p).2.toList):=by
 have hB':=hB
 unfold sB at hB
 unfold Za9 Sort.partitionEqual
 obtain ⟨y,hy⟩:=idxn_set (i:=a) (x:=d[p]!) hd (show p<n by omega)
 simp only [idxn_arr hd (show p<n by omega),idxn_arr hd (show a<n by omega),Option.bind_some,Int.toNat_natCast,hy,swp_arr]
 obtain ⟨b',rfl⟩:∃ b',b=b' + 1:=⟨b - 1,by omega⟩
 rw [wsuc (by omega),wpred (by omega),pe1_eq hB' (by omega) (b' + 1 - (a + 1)) (a + 1) b' fuel _ (by rw [swp_sz,hd]) (Nat.le_refl _) (by unfold fuel; omega) (by omega) (by omega) (by omega)]
 rfl
theorem pa4_eq {n a j:Nat} (hB:n≤sB) {d:Array Int} (hd:d.size=n) (ha:a<n) (hj:j<n) (i:Nat) (hi:i≤j + 2):Zax n (a:Int) d.toList (j:Int) fuel (i:Int)=some ((Sort.scanUp (fun x=>Sort.ltInt x d[a]!) d j i:Nat):Int):=by
 refine up_eq hB (d:=d) (fun x=>Sort.ltInt x d[a]!) hj ha (fun m i hi=>?_) (j + 1) i fuel (by omega) (by unfold sB at hB; unfold fuel; omega) hi
 unfold sB at hB hi
 rw [Zax]
 by_cases h:i≤j
 ·rw [decide_eq_true (show (i:Int)≤(j:Int) by omega)]
  simp only [Option.bind_some,if_true,idxn_arr hd ha,idxn_arr hd (show i<n by omega),Less_eq,wsuc (show i + 1<1000000000000 by omega),h,true_and]
 ·rw [decide_eq_false (show ¬ (i:Int)≤(j:Int) by omega)]
  simp [h]
theorem pa5_eq {n a i:Nat} (hB:n≤sB) {d:Array Int} (hd:d.size=n) (ha:a<n) (hi:0<i) (j:Nat) (hj:j<n):Zay n (a:Int) d.toList (i:Int) fuel (j:Int)=some ((Sort.scanDown (fun x=>!Sort.ltInt x d[a]!) d i j:Nat):Int):=by
 refine down_eq hi (n:=n) (d:=d) (fun x=>!Sort.ltInt x d[a]!) (fun m j hj=>?_) j fuel (by unfold sB at hB; unfold fuel; omega) hj
 unfold sB at hB
 rw [Zay]
 by_cases h:i≤j
 ·rw [decide_eq_true (show (i:Int)≤(j:Int) by omega)]
  simp only [Option.bind_some,if_true,idxn_arr hd ha,idxn_arr hd hj,Less_eq,wi64 (show -9223372036854775808≤(j:Int) - 1 by omega) (show (j:Int) - 1<9223372036854775808 by omega),h,true_and]
 ·rw [decide_eq_false (show ¬ (i:Int)≤(j:Int) by omega)]
  simp [h]
theorem pa3_eq {n a:Nat} (hB:n≤sB) (ha:a<n):∀ (k i j m:Nat) (d:Array Int),d.size=n→j + 1 - i≤k→k<m→i≤j + 2→a<i→j<n →
  Zag n (a:Int) m d.toList (i:Int) (j:Int)=some ((Sort.partLoop Sort.ltInt a i j d).2.toList,((Sort.partLoop Sort.ltInt a i j d).1:Int)):=by
 intro k
 induction k with
 | zero=>
  intro i j m d hd hk hm hij hai hj
  cases m with
  | zero=>omega
  | succ m=>
  have h1:Sort.scanUp (fun x=>Sort.ltInt x d[a]!) d j i=i:=by rw [Sort.scanUp,if_neg (by simp; omega)]
  have h2:Sort.scanDown (fun x=>!Sort.ltInt x d[a]!) d i j≤j:=Sort.scanDown_le _ _ _ _
  rw [Zag,pa4_eq hB hd ha hj i hij,Sort.partLoop_eq,h1]
  simp only [Option.bind_some]
  rw [pa5_eq hB hd ha (by omega) j hj]
  simp only [Option.bind_some]
  rw [if_pos (decide_eq_true (by omega)),if_pos (by omega)]
 | succ k ih=>
  intro i j m d hd hk hm hij hai hj
  cases m with
  | zero=>omega
  | succ m=>
  have hB':=hB
  unfold sB at hB
  rw [Zag,pa4_eq hB' hd ha hj i hij,Sort.partLoop_eq]
  simp only [Option.bind_some]
  have g1:=Sort.scanUp_ge (fun x=>Sort.ltInt x d[a]!) d j i
  generalize Sort.scanUp (fun x=>Sort.ltInt x d[a]!) d j i=i2 at g1 ⊢
  rw [pa5_eq hB' hd ha (by omega) j hj]
  simp only [Option.bind_some]
  have g2:=Sort.scanDown_le (fun x=>!Sort.ltInt x d[a]!) d i2 j
  generalize Sort.scanDown (fun x=>!Sort.ltInt x d[a]!) d i2 j=j2 at g2 ⊢
  by_cases h:i2 > j2
  ·rw [if_pos (decide_eq_true (by omega)),if_pos h]
  ·rw [if_neg (by simp; omega),if_neg h]
   obtain ⟨y,hy⟩:=idxn_set (i:=i2) (x:=d[j2]!) hd (show j2<n by omega)
   simp only [idxn_arr hd (show j2<n by omega),idxn_arr hd (show i2<n by omega),Option.bind_some,Int.toNat_natCast,hy,swp_arr]
   obtain ⟨j',rfl⟩:∃ j',j2=j' + 1:=⟨j2 - 1,by omega⟩
   rw [wsuc (by omega),wpred (by omega)]
   exact ih (i2 + 1) j' m _ (by rw [swp_sz,hd]) (by omega) (by omega) (by omega) (by omega) (by omega)
theorem pa1_eq {n a b p:Nat} (hB:n≤sB) {d:Array Int} (hd:d.size=n) (hb:b≤n) (hab:a<b) (i:Nat) (hi:i≤b - 1 + 2) :
  Zav n d.toList (a:Int) (b:Int) (p:Int) d[p]! d[a]! fuel (i:Int)=some ((Sort.scanUp (fun x=>Sort.ltInt x (Sort.swp d a p)[a]!) (Sort.swp d a p) (b - 1) i:Nat):Int):=by
 refine up_eq hB (d:=Sort.swp d a p) (fun x=>Sort.ltInt x (Sort.swp d a p)[a]!) (show b - 1<n by omega) (show a<n by omega) (fun m i hi=>?_) b i fuel (by omega) (by unfold sB at hB; unfold fuel; omega) hi
 unfold sB at hB hi
 have hd':(Sort.swp d a p).size=n:=by rw [swp_sz,hd]
 have e1:IntKind.wrap .i64 ((b:Int) - 1)=((b - 1:Nat):Int):=by rw [wi64 (by omega) (by omega)]; omega
 rw [Zav,e1]
 simp only [Int.toNat_natCast,swp_arr]
 by_cases h:i≤b - 1
 ·rw [decide_eq_true (show (i:Int)≤((b - 1:Nat):Int) by omega)]
  simp only [Option.bind_some,if_true,idxn_arr hd' (show a<n by omega),idxn_arr hd' (show i<n by omega),Less_eq,wsuc (show i + 1<1000000000000 by omega),h,true_and]
 ·rw [decide_eq_false (show ¬ (i:Int)≤((b - 1:Nat):Int) by omega)]
  simp [h]
theorem pa2_eq {n a p i:Nat} (hB:n≤sB) {d:Array Int} (hd:d.size=n) (ha:a<n) (hi:0<i) (j:Nat) (hj:j<n) :
  Zaw n d.toList (a:Int) (p:Int) d[p]! d[a]! (i:Int) fuel (j:Int)=some ((Sort.scanDown (fun x=>!Sort.ltInt x (Sort.swp d a p)[a]!) (Sort.swp d a p) i j:Nat):Int):=by
 refine down_eq hi (n:=n) (d:=Sort.swp d a p) (fun x=>!Sort.ltInt x (Sort.swp d a p)[a]!) (fun m j hj=>?_) j fuel (by unfold sB at hB; unfold fuel; omega) hj
 unfold sB at hB
 have hd':(Sort.swp d a p).size=n:=by rw [swp_sz,hd]
 rw [Zaw]
 simp only [Int.toNat_natCast,swp_arr]
 by_cases h:i≤j
 ·rw [decide_eq_true (show (i:Int)≤(j:Int) by omega)]
  simp only [Option.bind_some,if_true,idxn_arr hd' ha,idxn_arr hd' hj,Less_eq,wi64 (show -9223372036854775808≤(j:Int) - 1 by omega) (show (j:Int) - 1<9223372036854775808 by omega),h,true_and]
 ·rw [decide_eq_false (show ¬ (i:Int)≤(j:Int) by omega)]
  simp [h]
theorem partLoop_sz {n a:Nat}:∀ (k i j:Nat) (d:Array Int),d.size=n→j + 1 - i≤k→(Sort.partLoop Sort.ltInt a i j d).2.size=n:=by
 intro k
 induction k with
 | zero=>
  intro i j d hd hk
  have h1:Sort.scanUp (fun x=>Sort.ltInt x d[a]!) d j i=i:=by rw [Sort.scanUp,if_neg (by simp; omega)]
  have h2:Sort.scanDown (fun x=>!Sort.ltInt x d[a]!) d i j≤j:=Sort.scanDown_le _ _ _ _
  rw [Sort.partLoop_eq,h1,if_pos (by omega)]; exact hd
 | succ k ih=>
  intro i j d hd hk
  rw [Sort.partLoop_eq]
  have g1:=Sort.scanUp_ge (fun x=>Sort.ltInt x d[a]!) d j i
  have g2:=Sort.scanDown_le (fun x=>!Sort.ltInt x d[a]!) d (Sort.scanUp (fun x=>Sort.ltInt x d[a]!) d j i) j
  split
  ·exact hd
  ·exact ih _ _ _ (by rw [swp_sz,hd]) (by omega)
theorem partLoop_le {a:Nat}:∀ (k i j:Nat) (d:Array Int),j + 1 - i≤k→(Sort.partLoop Sort.ltInt a i j d).1≤j:=by
 intro k
 induction k with
 | zero=>
  intro i j d hk
  have h1:Sort.scanUp (fun x=>Sort.ltInt x d[a]!) d j i=i:=by rw [Sort.scanUp,if_neg (by simp; omega)]
  have h2:Sort.scanDown (fun x=>!Sort.ltInt x d[a]!) d i j≤j:=Sort.scanDown_le _ _ _ _
  rw [Sort.partLoop_eq,h1,if_pos (by omega)]; exact h2
 | succ k ih=>
  intro i j d hk
  rw [Sort.partLoop_eq]
  have g1:=Sort.scanUp_ge (fun x=>Sort.ltInt x d[a]!) d j i
  have g2:=Sort.scanDown_le (fun x=>!Sort.ltInt x d[a]!) d (Sort.scanUp (fun x=>Sort.ltInt x d[a]!) d j i) j
  split
  ·exact g2
  ·exact Nat.le_trans (ih _ _ _ (by omega)) (by omega)
theorem partition_eq {n a b p:Nat} (hB:n≤sB) (hb:b≤n) (hp0:a≤p) (hp:p<b) {d:Array Int} (hd:d.size=n) :
  Zbq n d.toList (a:Int) (b:Int) (p:Int)=some (((Sort.partition Sort.ltInt d a b p).1:Int),(Sort.partition Sort.ltInt d a b p).2.1,(Sort.partition Sort.ltInt d a b p).2.2.toList):=by
 have hB':=hB
 unfold sB at hB
 have hd':(Sort.swp d a p).size=n:=by rw [swp_sz,hd]
 unfold Zbq Sort.partition
 obtain ⟨y,hy⟩:=idxn_set (i:=a) (x:=d[p]!) hd (show p<n by omega)
 have e1:IntKind.wrap .i64 ((b:Int) - 1)=((b - 1:Nat):Int):=by rw [wi64 (by omega) (by omega)]; omega
 simp only [idxn_arr hd (show p<n by omega),idxn_arr hd (show a<n by omega),Option.bind_some,Int.toNat_natCast,hy,swp_arr]
 rw [wsuc (by omega),pa1_eq hB' hd hb (by omega) (a + 1) (by omega),e1]
 simp only [Option.bind_some]
 have g1:=Sort.scanUp_ge (fun x=>Sort.ltInt x (Sort.swp d a p)[a]!) (Sort.swp d a p) (b - 1) (a + 1)
 generalize Sort.scanUp (fun x=>Sort.ltInt x (Sort.swp d a p)[a]!) (Sort.swp d a p) (b - 1) (a + 1)=i at g1 ⊢
 rw [pa2_eq hB' hd (by omega) (by omega) (b - 1) (by omega)]
 simp only [Option.bind_some]
 have g2:=Sort.scanDown_le (fun x=>!Sort.ltInt x (Sort.swp d a p)[a]!) (Sort.swp d a p) i (b - 1)
 generalize Sort.scanDown (fun x=>!Sort.ltInt x (Sort.swp d a p)[a]!) (Sort.swp d a p) i (b - 1)=j at g2 ⊢
 by_cases h:i > j
 ·rw [if_pos (decide_eq_true (by omega)),if_pos h]
  obtain ⟨y,hy⟩:=idxn_set (i:=j) (x:=(Sort.swp d a p)[a]!) hd' (show a<n by omega)
  simp only [idxn_arr hd' (show j<n by omega),idxn_arr hd' (show a<n by omega),Option.bind_some,Int.toNat_natCast,hy,swp_arr]
 ·rw [if_neg (by simp; omega),if_neg h]
  obtain ⟨y,hy⟩:=idxn_set (i:=i) (x:=(Sort.swp d a p)[j]!) hd' (show j<n by omega)
  simp only [idxn_arr hd' (show j<n by omega),idxn_arr hd' (show i<n by omega),Option.bind_some,Int.toNat_natCast,hy,swp_arr]
  obtain ⟨j',rfl⟩:∃ j',j=j' + 1:=⟨j - 1,by omega⟩
  have hd2:(Sort.swp (Sort.swp d a p) i (j' + 1)).size=n:=by rw [swp_sz,hd']
  rw [wsuc (by omega),wpred (by omega),pa3_eq hB' (by omega) (j' + 1 - (i + 1)) (i + 1) j' fuel _ hd2 (Nat.le_refl _) (by unfold fuel; omega) (by omega) (by omega) (by omega)]
  simp only [Option.bind_some,Nat.add_sub_cancel]
  have hz:=partLoop_sz (a:=a) (j' + 1 - (i + 1)) (i + 1) j' _ hd2 (Nat.le_refl _)
  have hl:=partLoop_le (a:=a) (j' + 1 - (i + 1)) (i + 1) j' (Sort.swp (Sort.swp d a p) i (j' + 1)) (Nat.le_refl _)
  generalize Sort.partLoop Sort.ltInt a (i + 1) j' (Sort.swp (Sort.swp d a p) i (j' + 1))=r at hz hl ⊢
  obtain ⟨r1,r2⟩:=r
  simp only at hz hl ⊢
  obtain ⟨y,hy⟩:=idxn_set (i:=r1) (x:=r2[a]!) hz (show a<n by omega)
  simp only [idxn_arr hz (show r1<n by omega),idxn_arr hz (show a<n by omega),Option.bind_some,Int.toNat_natCast,hy,swp_arr]
end Go.AM
set_option maxRecDepth 100000
namespace Go.AM
open Go
theorem scanSorted_eq {n b:Nat} (hB:n≤sB) (hb:b≤n) {d:Array Int} (hd:d.size=n):∀ (k i m:Nat),b - i≤k→k<m→0<i→i≤n + 1 →
  Zv n (b:Int) d.toList m (i:Int)=some ((Sort.scanSorted Sort.ltInt d b i:Nat):Int):=by
 have hB':=hB
 unfold sB at hB
 intro k
 induction k with
 | zero=>
  intro i m hk hm h0 hi
  cases m with
  | zero=>omega
  | succ m=>
  rw [Zv,Sort.scanSorted,decide_eq_false (by omega),if_neg (show ¬ (decide (i<b) && !Sort.ltInt d[i]! d[i - 1]!)=true by simp; omega)]
  simp
 | succ k ih=>
  intro i m hk hm h0 hi
  cases m with
  | zero=>omega
  | succ m=>
  rw [Zv,Sort.scanSorted]
  by_cases h:i<b
  ·obtain ⟨i',rfl⟩:∃ i',i=i' + 1:=⟨i - 1,by omega⟩
   rw [decide_eq_true (show ((i' + 1:Nat):Int)<(b:Int) by omega),decide_eq_true h]
   simp only [Option.bind_some,if_true,wpred (show i' + 1<1000000000000 by omega),idxn_arr hd (show i' + 1<n by omega),idxn_arr hd (show i'<n by omega),Less_eq,Nat.add_sub_cancel,Bool.true_and]
   cases hl:Sort.ltInt d[i' + 1]! d[i']! with
   | true=>simp
   | false=>
    simp only [Bool.not_false,if_true,wsuc (show i' + 1 + 1<1000000000000 by omega)]
    exact ih (i' + 1 + 1) m (by omega) (by omega) (by omega) (by omega)
  ·rw [decide_eq_false (show ¬ (i:Int)<(b:Int) by omega),decide_eq_false h]
   simp
theorem scanSorted_rng {d:Array Int} {b:Nat}:∀ (k i:Nat),b - i≤k→i≤Sort.scanSorted Sort.ltInt d b i∧(i≤b→Sort.scanSorted Sort.ltInt d b i≤b):=by
 intro k
 induction k with
 | zero=>intro i hk; rw [Sort.scanSorted,if_neg (by simp; omega)]; omega
 | succ k ih=>
  intro i hk
  rw [Sort.scanSorted]
  split
  ·rename_i h
   simp only [Bool.and_eq_true,decide_eq_true_eq] at h
   have:=ih (i + 1) (by omega)
   omega
  ·omega
theorem shiftDown_eq {n:Nat} (hB:n≤sB):∀ (j m:Nat) (d:Array Int),d.size=n→j<n→j<m →
  Zr n m d.toList (j:Int)=some (Sort.shiftDown Sort.ltInt j d).toList
 | 0,m + 1,d,hd,hj,hm=>by
  rw [Zr,if_neg (by simp)]; rfl
 | j + 1,m + 1,d,hd,hj,hm=>by
  have ih:=shiftDown_eq hB j m
  unfold sB at hB
  obtain ⟨y,hy⟩:=idxn_set (i:=j + 1) (x:=d[j]!) hd (show j<n by omega)
  rw [Zr,Sort.shiftDown,if_pos (decide_eq_true (by omega))]
  simp only [wpred (show j + 1<1000000000000 by omega),idxn_arr hd hj,idxn_arr hd (show j<n by omega),Option.bind_some,Less_eq,Int.toNat_natCast,hy,swp_arr]
  cases hl:Sort.ltInt d[j + 1]! d[j]! with
  | false=>rfl
  | true=>
   simp only [Bool.not_true,Bool.false_eq_true,if_false]
   exact ih _ (by rw [swp_sz,hd]) (by omega) (by omega)
theorem shiftDown_sz {n:Nat}:∀ (j:Nat) (d:Array Int),d.size=n→(Sort.shiftDown Sort.ltInt j d).size=n
 | 0,_,hd=>hd
 | j + 1,d,hd=>by
  rw [Sort.shiftDown]
  split
  ·exact hd
  ·exact shiftDown_sz j _ (by rw [swp_sz,hd])
theorem shiftUp_eq {n b:Nat} (hB:n≤sB) (hb:b≤n):∀ (k j m:Nat) (d:Array Int),d.size=n→b - j≤k→k<m→0<j→j≤n + 1 →
  Zw n (b:Int) m d.toList (j:Int)=some (Sort.shiftUp Sort.ltInt b j d).toList:=by
 have hB':=hB
 unfold sB at hB
 intro k
 induction k with
 | zero=>
  intro j m d hd hk hm h0 hj
  cases m with
  | zero=>omega
  | succ m=>rw [Zw,Sort.shiftUp,if_neg (by simp; omega),if_neg (by omega)]
 | succ k ih=>
  intro j m d hd hk hm h0 hj
  cases m with
  | zero=>omega
  | succ m=>
  rw [Zw,Sort.shiftUp]
  by_cases h:j<b
  ·rw [if_pos (decide_eq_true (by omega)),if_pos h]
   obtain ⟨j',rfl⟩:∃ j',j=j' + 1:=⟨j - 1,by omega⟩
   obtain ⟨y,hy⟩:=idxn_set (i:=j' + 1) (x:=d[j']!) hd (show j'<n by omega)
   simp only [wpred (show j' + 1<1000000000000 by omega),idxn_arr hd (show j' + 1<n by omega),idxn_arr hd (show j'<n by omega),Option.bind_some,Less_eq,Int.toNat_natCast,hy,swp_arr,Nat.add_sub_cancel]
   cases hl:Sort.ltInt d[j' + 1]! d[j']! with
   | false=>rfl
   | true=>
    simp only [Bool.not_true,Bool.false_eq_true,if_false,wsuc (show j' + 1 + 1<1000000000000 by omega)]
    exact ih (j' + 1 + 1) m _ (by rw [swp_sz,hd]) (by omega) (by omega) (by omega) (by omega)
  ·rw [if_neg (by simp; omega),if_neg h]
theorem shiftUp_sz {n b:Nat}:∀ (k j:Nat) (d:Array Int),d.size=n→b - j≤k→(Sort.shiftUp Sort.ltInt b j d).size=n:=by
 intro k
 induction k with
 | zero=>intro j d hd hk; rw [Sort.shiftUp,if_neg (by omega)]; exact hd
 | succ k ih=>
  intro j d hd hk
  rw [Sort.shiftUp]
  split
  ·split
   ·exact hd
   ·exact ih _ _ (by rw [swp_sz,hd]) (by omega)
  ·exact hd
def outP (r:Array Int × Bool) (o:List Int ⊕ (Bool × List Int)):Prop:=(o=.inl r.1.toList∧r.2=false)∨o=.inr (r.2,r.1.toList)
theorem partialIns_eq {n a b:Nat} (hB:n≤sB) (hb:b≤n) (hab:a<b):∀ (s c i m:Nat) (d:Array Int),d.size=n→c + s=5→s<m→a<i→i≤b →
  Ok (Zx n (a:Int) (b:Int) m d.toList (i:Int) (c:Int)) (outP (Sort.partialIns Sort.ltInt a b s i d))
 | 0,c,i,m + 1,d,hd,hc,hm,hai,hi=>by
  rw [Zx,if_neg (by simp; omega)]
  exact ⟨_,rfl,Or.inl ⟨rfl,rfl⟩⟩
 | s + 1,c,i,m + 1,d,hd,hc,hm,hai,hi=>by
  have ih:=partialIns_eq hB hb hab s (c + 1)
  have hB':=hB
  unfold sB at hB
  rw [Zx,if_pos (decide_eq_true (by omega)),scanSorted_eq hB' hb hd (b - i) i fuel (Nat.le_refl _) (by unfold fuel; omega) (by omega) (by omega),Sort.partialIns]
  obtain ⟨g1,g2⟩:=scanSorted_rng (d:=d) (b - i) i (Nat.le_refl _)
  have g2:=g2 hi
  generalize Sort.scanSorted Sort.ltInt d b i=j at g1 g2 ⊢
  simp only [Option.bind_some]
  by_cases h1:j=b
  ·rw [if_pos (by simp [h1]),if_pos h1]
   exact ⟨_,rfl,Or.inr rfl⟩
  ·rw [if_neg (by simp; omega),if_neg h1,wsub (by omega) (by omega)]
   by_cases h2:b - a<50
   ·rw [if_pos (decide_eq_true (by omega)),if_pos h2]
    exact ⟨_,rfl,Or.inr rfl⟩
   ·rw [if_neg (by simp; omega),if_neg h2]
    obtain ⟨j',rfl⟩:∃ j',j=j' + 1:=⟨j - 1,by omega⟩
    obtain ⟨y,hy⟩:=idxn_set (i:=j' + 1) (x:=d[j']!) hd (show j'<n by omega)
    simp only [wpred (show j' + 1<1000000000000 by omega),idxn_arr hd (show j' + 1<n by omega),idxn_arr hd (show j'<n by omega),Option.bind_some,Int.toNat_natCast,hy,swp_arr,Nat.add_sub_cancel]
    rw [wsub (i:=j' + 1) (j:=a) (by omega) (by omega),wsub (i:=b) (j:=j' + 1) (by omega) (by omega)]
    have hd2:(Sort.swp d (j' + 1) j').size=n:=by rw [swp_sz,hd]
    generalize Sort.swp d (j' + 1) j'=d2 at hd2 ⊢
    have e3:(if (decide (((j' + 1 - a:Nat):Int) ≥ 2))=true then (Zr n fuel d2.toList (j':Int)).bind fun (v1191:(List Int))=>some v1191 else some d2.toList)=some (if j' + 1 - a ≥ 2 then Sort.shiftDown Sort.ltInt j' d2 else d2).toList:=by
     by_cases h3:j' + 1 - a ≥ 2
     ·rw [if_pos (decide_eq_true (by omega)),if_pos h3,shiftDown_eq hB' j' fuel d2 hd2 (by omega) (by unfold fuel; omega)]; rfl
     ·rw [if_neg (by simp; omega),if_neg h3]
    rw [e3]
    have hd3:(if j' + 1 - a ≥ 2 then Sort.shiftDown Sort.ltInt j' d2 else d2).size=n:=by
     split
     ·exact shiftDown_sz _ _ hd2
     ·exact hd2
    generalize (if j' + 1 - a ≥ 2 then Sort.shiftDown Sort.ltInt j' d2 else d2)=d3 at hd3 ⊢
    simp only [Option.bind_some]
    rw [wsuc (j:=j' + 1) (by omega),wsuc (j:=c) (by omega)]
    by_cases h4:b - (j' + 1) ≥ 2
    ·rw [if_pos (decide_eq_true (by omega)),if_pos h4,shiftUp_eq hB' hb (b - (j' + 1 + 1)) (j' + 1 + 1) fuel d3 hd3 (Nat.le_refl _) (by unfold fuel; omega) (by omega) (by omega)]
     simp only [Option.bind_some]
     exact ih (j' + 1) m _ (shiftUp_sz _ _ _ hd3 (Nat.le_refl _)) (by omega) (by omega) (by omega) (by omega)
    ·rw [if_neg (by simp; omega),if_neg h4]
     simp only [Option.bind_some]
     exact ih (j' + 1) m _ hd3 (by omega) (by omega) (by omega) (by omega)
theorem partialInsertionSort_eq {n a b:Nat} (hB:n≤sB) (hb:b≤n) (hab:a<b) {d:Array Int} (hd:d.size=n) :
  Z9 n d.toList (a:Int) (b:Int)=some ((Sort.partialInsertionSort Sort.ltInt d a b).2,(Sort.partialInsertionSort Sort.ltInt d a b).1.toList):=by
 unfold Z9 Sort.partialInsertionSort
 have hB':=hB
 unfold sB at hB
 rw [wsuc (by omega)]
 obtain ⟨o,e,ho⟩:=partialIns_eq hB' hb hab 5 0 (a + 1) fuel d hd rfl (by unfold fuel; omega) (by omega) (by omega)
 rw [show ((0:Nat):Int)=0 from rfl] at e
 rw [e]
 rcases ho with ⟨rfl,h⟩ | rfl
 ·simp only [Option.bind_some,h]
 ·rfl
theorem order2_eq {n a b s:Nat} {d:Array Int} (hd:d.size=n) (ha:a<n) (hb:b<n) (hs:s<1000):Za2 n d.toList (a:Int) (b:Int) (s:Int)=some (((Sort.order2 Sort.ltInt d a b s).1:Int),((Sort.order2 Sort.ltInt d a b s).2.1:Int),((Sort.order2 Sort.ltInt d a b s).2.2:Int)):=by
 unfold Za2 Sort.order2
 simp only [idxn_arr hd ha,idxn_arr hd hb,Option.bind_some,Less_eq,wsuc (show s + 1<1000000000000 by omega)]
 split <;> rfl
theorem order2_rng {n a b s:Nat} {d:Array Int} (ha:a<n) (hb:b<n):(Sort.order2 Sort.ltInt d a b s).1<n∧(Sort.order2 Sort.ltInt d a b s).2.1<n∧(Sort.order2 Sort.ltInt d a b s).2.2≤s + 1:=by
 unfold Sort.order2
 split
 ·exact ⟨hb,ha,by simp⟩
 ·exact ⟨ha,hb,by simp⟩
theorem median_eq {n a b c s:Nat} {d:Array Int} (hd:d.size=n) (ha:a<n) (hb:b<n) (hc:c<n) (hs:s<900):Zbi n d.toList (a:Int) (b:Int) (c:Int) (s:Int)=some (((Sort.median Sort.ltInt d a b c s).1:Int),((Sort.median Sort.ltInt d a b c s).2:Int)):=by
 unfold Zbi Sort.median
 obtain ⟨g1,g2,g3⟩:=order2_rng (s:=s) (d:=d) ha hb
 rw [order2_eq hd ha hb (by omega)]
 simp only [Option.bind_some]
 obtain ⟨h1,h2,h3⟩:=order2_rng (s:=(Sort.order2 Sort.ltInt d a b s).2.2) (d:=d) g2 hc
 rw [order2_eq hd g2 hc (by omega)]
 simp only [Option.bind_some]
 rw [order2_eq hd g1 h1 (by omega)]
 rfl
theorem median_rng {n a b c s:Nat} {d:Array Int} (ha:a<n) (hb:b<n) (hc:c<n):(Sort.median Sort.ltInt d a b c s).1<n∧(Sort.median Sort.ltInt d a b c s).2≤s + 3:=by
 unfold Sort.median
 obtain ⟨g1,g2,g3⟩:=order2_rng (s:=s) (d:=d) ha hb
 obtain ⟨h1,h2,h3⟩:=order2_rng (s:=(Sort.order2 Sort.ltInt d a b s).2.2) (d:=d) g2 hc
 obtain ⟨k1,k2,k3⟩:=order2_rng (s:=(Sort.order2 Sort.ltInt d (Sort.order2 Sort.ltInt d a b s).2.1 c (Sort.order2 Sort.ltInt d a b s).2.2).2.2) (d:=d) g1 h1
 exact ⟨k2,Nat.le_trans k3 (by omega)⟩
theorem medianAdjacent_eq {n a s:Nat} (hB:n≤sB) {d:Array Int} (hd:d.size=n) (h0:0<a) (ha:a + 1<n) (hs:s<900):Zac n d.toList (a:Int) (s:Int)=some (((Sort.medianAdjacent Sort.ltInt d a s).1:Int),((Sort.medianAdjacent Sort.ltInt d a s).2:Int)):=by
 unfold sB at hB
 unfold Zac Sort.medianAdjacent
 obtain ⟨a',rfl⟩:∃ a',a=a' + 1:=⟨a - 1,by omega⟩
 rw [wpred (by omega),wsuc (by omega),median_eq hd (by omega) (by omega) ha hs]
 rfl
theorem medianAdjacent_rng {n a s:Nat} {d:Array Int} (ha:a + 1<n):(Sort.medianAdjacent Sort.ltInt d a s).1<n∧(Sort.medianAdjacent Sort.ltInt d a s).2≤s + 3:=by
 unfold Sort.medianAdjacent
 exact median_rng (by omega) (by omega) ha
def hintN:Sort.Hint→Int
 | .unknown=>0
 | .increasing=>1
 | .decreasing=>2
theorem choosePivot_eq {n a b:Nat} (hB:n≤sB) (hab:a<b) (hb:b≤n) {d:Array Int} (hd:d.size=n) :
  Zbh n d.toList (a:Int) (b:Int)=some (((Sort.choosePivot Sort.ltInt d a b).1:Int),hintN (Sort.choosePivot Sort.ltInt d a b).2):=by
 have hB':=hB
 unfold sB at hB
 unfold Zbh
 have ew:IntKind.wrap .i64 ((b:Int) - (a:Int))=((b - a:Nat):Int):=wsub (by omega) (by omega)
 have eq4:IntKind.wrap .i64 (Int.tdiv ((b - a:Nat):Int) (4:Int))=(((b - a) / 4:Nat):Int):=by
  rw [Int.tdiv_eq_ediv_of_nonneg (by omega),wi64 (by omega) (by omega)]; omega
 have ep:∀ k:Nat,k≤3→IntKind.wrap .i64 ((a:Int) + IntKind.wrap .i64 ((((b - a) / 4:Nat):Int) * (k:Int)))=((a + (b - a) / 4 * k:Nat):Int):=fun k hk=>by
  have h1:(b - a) / 4 * k≤(b - a) / 4 * 3:=Nat.mul_le_mul_left _ hk
  have e2:(((b - a) / 4:Nat):Int) * (k:Int)=(((b - a) / 4 * k:Nat):Int):=by push_cast; rfl
  rw [e2,wi64 (x:=(((b - a) / 4 * k:Nat):Int)) (by omega) (by omega),wadd (by omega)]
 have e1:=ep 1 (by omega)
 have e2:=ep 2 (by omega)
 have e3:=ep 3 (by omega)
 rw [show ((1:Nat):Int)=1 from rfl] at e1
 rw [show ((2:Nat):Int)=2 from rfl] at e2
 rw [show ((3:Nat):Int)=3 from rfl] at e3
 rw [ew,eq4,e1,e2,e3]
 have fin:∀ (r:Nat × Nat),(match ((r.2:Int),(r.1:Int)) with
   | (v24,v25)=>if (v24 == (0:Int))=true then some (v25,(1:Int)) else if (v24 == (12:Int))=true then some (v25,(2:Int)) else some (v25,(0:Int))) =
   some ((r.1:Int),hintN (if r.2=0 then .increasing else if r.2=12 then .decreasing else .unknown)):=fun r=>by
  simp only [beq_iff_eq]
  by_cases h0:r.2=0
  ·rw [if_pos (by omega),if_pos h0]; rfl
  ·rw [if_neg (by omega),if_neg h0]
   by_cases h1:r.2=12
   ·rw [if_pos (by omega),if_pos h1]; rfl
   ·rw [if_neg (by omega),if_neg h1]; rfl
 unfold Sort.choosePivot
 simp only
 by_cases h8:b - a ≥ 8
 ·rw [if_pos (decide_eq_true (show ((b - a:Nat):Int) ≥ 8 by omega)),if_pos h8]
  by_cases h50:b - a ≥ 50
  ·rw [if_pos (decide_eq_true (show ((b - a:Nat):Int) ≥ 50 by omega)),if_pos h50]
   have l1:a + (b - a) / 4 * 3 + 1<n:=by omega
   rw [show (0:Int)=((0:Nat):Int) from rfl]
   rw [medianAdjacent_eq hB' hd (by omega) (by omega) (by omega)]
   obtain ⟨p1,p2⟩:=medianAdjacent_rng (n:=n) (a:=a + (b - a) / 4 * 1) (s:=0) (d:=d) (by omega)
   simp only [Option.bind_some]
   rw [medianAdjacent_eq hB' hd (by omega) (by omega) (by omega)]
   obtain ⟨q1,q2⟩:=medianAdjacent_rng (n:=n) (a:=a + (b - a) / 4 * 2) (s:=(Sort.medianAdjacent Sort.ltInt d (a + (b - a) / 4 * 1) 0).2) (d:=d) (by omega)
   simp only [Option.bind_some]
   rw [medianAdjacent_eq hB' hd (by omega) (by omega) (by omega)]
   obtain ⟨s1,s2⟩:=medianAdjacent_rng (n:=n) (a:=a + (b - a) / 4 * 3) (s:=(Sort.medianAdjacent Sort.ltInt d (a + (b - a) / 4 * 2) (Sort.medianAdjacent Sort.ltInt d (a + (b - a) / 4 * 1) 0).2).2) (d:=d) (by omega)
   simp only [Option.bind_some]
   rw [median_eq hd p1 q1 s1 (by omega)]
   simp only [Option.bind_some]
   exact fin _
  ·rw [if_neg (by simp; omega),if_neg h50]
   rw [show (0:Int)=((0:Nat):Int) from rfl]
   simp only [Option.bind_some]
   rw [median_eq hd (by omega) (by omega) (by omega) (by omega)]
   simp only [Option.bind_some]
   exact fin _
 ·rw [if_neg (by simp; omega),if_neg h8]
  simp only [Option.bind_some]
  exact fin (a + (b - a) / 4 * 2,0)
end Go.AM
set_option maxRecDepth 100000
namespace Go.AM
open Go
theorem bitsLen_256 {x:Nat} (h:256≤x):Sort.bitsLen x=Sort.bitsLen (x / 256) + 8:=by
 have h1:∀ m,Sort.bitsLen x≤m + 8 ↔ Sort.bitsLen (x / 256)≤m:=fun m=>by
  rw [Sort.bitsLen_le_iff,Sort.bitsLen_le_iff,Nat.pow_add]
  have:0<2 ^ m:=Nat.pow_pos (by omega)
  omega
 have h2:=(h1 (Sort.bitsLen (x / 256))).2 (Nat.le_refl _)
 have h3:¬ Sort.bitsLen x≤8:=by rw [Sort.bitsLen_le_iff]; omega
 have h4:=(h1 (Sort.bitsLen x - 8)).1 (by omega)
 omega
theorem bShr_nat (x k:Nat) (hk:k≤64):bShr .u64 (x:Int) (k:Int)=((x / 2 ^ k:Nat):Int):=by
 unfold bShr
 rw [Int.toNat_natCast,show min k (IntKind.bits .u64)=k from Nat.min_eq_left hk,Int.fdiv_eq_ediv_of_nonneg _ (by exact Int.le_of_lt (by exact Int.pow_pos (by decide)))]
 push_cast; rfl
def len8:ByteArray:=⟨#[0,1,2,2,3,3,3,3,4,4,4,4,4,4,4,4,5,5,5,5,5,5,5,5,5,5,5,5,5,5,5,5,6,6,6,6,6,6,6,6,6,6,6,6,6,6,6,6,6,6,6,6,6,6,6,6,6,6,6,6,6,6,6,6,7,7,7,7,7,7,7,7,7,7,7,7,7,7,7,7,7,7,7,7,7,7,7,7,7,7,7,7,7,7,7,7,7,7,7,7,7,7,7,7,7,7,7,7,7,7,7,7,7,7,7,7,7,7,7,7,7,7,7,7,7,7,7,7,8,8,8,8,8,8,8,8,8,8,8,8,8,8,8,8,8,8,8,8,8,8,8,8,8,8,8,8,8,8,8,8,8,8,8,8,8,8,8,8,8,8,8,8,8,8,8,8,8,8,8,8,8,8,8,8,8,8,8,8,8,8,8,8,8,8,8,8,8,8,8,8,8,8,8,8,8,8,8,8,8,8,8,8,8,8,8,8,8,8,8,8,8,8,8,8,8,8,8,8,8,8,8,8,8,8,8,8,8,8,8,8,8,8,8,8,8,8,8,8,8,8,8,8,8,8,8,8]⟩
theorem len8_get:(List.range 256).map (fun i=>len8.data[i]?.map (·.toNat))=(List.range 256).map (fun i=>some (Sort.bitsLen i)):=by kernel_rfl
theorem len8_at {i:Nat} (h:i<256):sidx ⟨#[0,1,2,2,3,3,3,3,4,4,4,4,4,4,4,4,5,5,5,5,5,5,5,5,5,5,5,5,5,5,5,5,6,6,6,6,6,6,6,6,6,6,6,6,6,6,6,6,6,6,6,6,6,6,6,6,6,6,6,6,6,6,6,6,7,7,7,7,7,7,7,7,7,7,7,7,7,7,7,7,7,7,7,7,7,7,7,7,7,7,7,7,7,7,7,7,7,7,7,7,7,7,7,7,7,7,7,7,7,7,7,7,7,7,7,7,7,7,7,7,7,7,7,7,7,7,7,7,8,8,8,8,8,8,8,8,8,8,8,8,8,8,8,8,8,8,8,8,8,8,8,8,8,8,8,8,8,8,8,8,8,8,8,8,8,8,8,8,8,8,8,8,8,8,8,8,8,8,8,8,8,8,8,8,8,8,8,8,8,8,8,8,8,8,8,8,8,8,8,8,8,8,8,8,8,8,8,8,8,8,8,8,8,8,8,8,8,8,8,8,8,8,8,8,8,8,8,8,8,8,8,8,8,8,8,8,8,8,8,8,8,8,8,8,8,8,8,8,8,8,8,8,8,8,8,8]⟩ (i:Int)=some ((Sort.bitsLen i:Nat):Int):=by
 have h1:len8.data[i]?.map (·.toNat)=some (Sort.bitsLen i):=List.map_inj_left.1 len8_get i (List.mem_range.2 h)
 have hs:len8.size=256:=by kernel_rfl
 have h2:i<len8.data.size:=by show i<len8.size; omega
 rw [Array.getElem?_eq_getElem h2] at h1
 simp only [Option.map_some,Option.some.injEq] at h1
 show sidx len8 (i:Int)=_
 unfold sidx
 rw [dif_pos ⟨by omega,by omega⟩,← h1]
 rfl
theorem Len_eq {x:Nat} (h:x<16777216):Zd7 (x:Int)=some ((Sort.bitsLen x:Nat):Int):=by
 have w8:∀ y:Nat,y<256→IntKind.wrap .u8 (y:Int)=(y:Int):=fun y hy=>by rw [wrap_u .u8 8 rfl rfl]; omega
 have hb:∀ y:Nat,y<256→Sort.bitsLen y≤8:=fun y hy=>(Sort.bitsLen_le_iff y 8).2 (by omega)
 unfold Zd7 Zfb
 rw [if_neg (by simp; omega)]
 simp only [Option.bind_some]
 have e16:bShr .u64 (x:Int) (16:Int)=((x / 65536:Nat):Int):=bShr_nat x 16 (by omega)
 have e8:bShr .u64 (x:Int) (8:Int)=((x / 256:Nat):Int):=bShr_nat x 8 (by omega)
 by_cases h1:x<65536
 ·rw [if_neg (show ¬ (decide ((x:Int) ≥ 65536))=true by simp; omega)]
  simp only [Option.bind_some]
  by_cases h2:x<256
  ·rw [if_neg (show ¬ (decide ((x:Int) ≥ 256))=true by simp; omega)]
   simp only [Option.bind_some]
   rw [w8 x h2,len8_at h2]
   have:=hb x h2
   simp only [Option.bind_some]
   rw [wi64 (x:=((Sort.bitsLen x:Nat):Int)) (by omega) (by omega),wi64 (by omega) (by omega),Int.zero_add]
  ·rw [if_pos (decide_eq_true (show (x:Int) ≥ 256 by omega)),e8]
   simp only [Option.bind_some]
   have h3:x / 256<256:=by omega
   rw [w8 _ h3,len8_at h3,bitsLen_256 (show 256≤x by omega)]
   have:=hb _ h3
   simp only [Option.bind_some]
   rw [wi64 (x:=((Sort.bitsLen (x / 256):Nat):Int)) (by omega) (by omega),wi64 (x:=(0:Int) + 8) (by omega) (by omega),wi64 (by omega) (by omega)]
   congr 1; omega
 ·rw [if_pos (decide_eq_true (show (x:Int) ≥ 65536 by omega)),e16]
  simp only [Option.bind_some]
  have h3:x / 65536<256:=by omega
  rw [if_neg (show ¬ (decide (((x / 65536:Nat):Int) ≥ 256))=true by simp; omega)]
  simp only [Option.bind_some]
  rw [w8 _ h3,len8_at h3,bitsLen_256 (show 256≤x by omega),bitsLen_256 (show 256≤x / 256 by omega),Nat.div_div_eq_div_mul]
  have:=hb _ h3
  simp only [Option.bind_some]
  rw [wi64 (x:=((Sort.bitsLen (x / 65536):Nat):Int)) (by omega) (by omega),wi64 (x:=(0:Int) + 16) (by omega) (by omega),wi64 (by omega) (by omega)]
  congr 1
  show _=((Sort.bitsLen (x / 65536) + 8 + 8:Nat):Int)
  omega
theorem bxor_nat {x y:Nat} (hx:x<2 ^ 64) (hy:y<2 ^ 64):bXor .u64 (x:Int) (y:Int)=((x ^^^ y:Nat):Int):=by
 have h:=Nat.xor_lt_two_pow hx hy
 unfold bXor
 have e:(BitVec.ofInt (IntKind.bits .u64) (x:Int) ^^^ BitVec.ofInt (IntKind.bits .u64) (y:Int)).toNat=x ^^^ y:=by
  rw [BitVec.ofInt_natCast,BitVec.ofInt_natCast]
  show (BitVec.ofNat 64 x ^^^ BitVec.ofNat 64 y).toNat=_
  rw [BitVec.toNat_xor,BitVec.toNat_ofNat,BitVec.toNat_ofNat,Nat.mod_eq_of_lt hx,Nat.mod_eq_of_lt hy]
 rw [e,wu64 (by omega) (by omega)]
theorem band_nat {x y:Nat} (hx:x<2 ^ 64) (hy:y<2 ^ 64):bAnd .u64 (x:Int) (y:Int)=((x &&& y:Nat):Int):=by
 have h:x &&& y<2 ^ 64:=Nat.and_lt_two_pow x hy
 unfold bAnd
 have e:(BitVec.ofInt (IntKind.bits .u64) (x:Int) &&& BitVec.ofInt (IntKind.bits .u64) (y:Int)).toNat=x &&& y:=by
  rw [BitVec.ofInt_natCast,BitVec.ofInt_natCast]
  show (BitVec.ofNat 64 x &&& BitVec.ofNat 64 y).toNat=_
  rw [BitVec.toNat_and,BitVec.toNat_ofNat,BitVec.toNat_ofNat,Nat.mod_eq_of_lt hx,Nat.mod_eq_of_lt hy]
 rw [e,wu64 (by omega) (by omega)]
theorem bShl_nat (x k:Nat) (hk:k≤64):bShl .u64 (x:Int) (k:Int)=((x * 2 ^ k % 2 ^ 64:Nat):Int):=by
 unfold bShl
 rw [Int.toNat_natCast,show min k (IntKind.bits .u64)=k from Nat.min_eq_left hk,wrap_u .u64 64 rfl rfl]
 rw [Int.natCast_emod,Int.natCast_mul,Int.natCast_pow,Int.natCast_pow]; rfl
theorem Next64_eq {x:Nat} (hx:x<2 ^ 64):Zc6 (x:Int)=some (((Sort.xorNextN x:Nat):Int),((Sort.xorNextN x:Nat):Int)):=by
 unfold Zc6
 have a1:bShl .u64 (x:Int) (13:Int)=((x * 8192 % 18446744073709551616:Nat):Int):=bShl_nat x 13 (by omega)
 have l1:x * 8192 % 18446744073709551616<2 ^ 64:=by omega
 rw [a1,bxor_nat hx l1]
 obtain ⟨a,ha⟩:∃ a,a=x ^^^ (x * 8192 % 18446744073709551616):=⟨_,rfl⟩
 have l2:a<2 ^ 64:=by rw [ha]; exact Nat.xor_lt_two_pow hx l1
 rw [← ha]
 have a2:bShr .u64 (a:Int) (7:Int)=((a / 128:Nat):Int):=bShr_nat a 7 (by omega)
 have l3:a / 128<2 ^ 64:=by omega
 rw [a2,bxor_nat l2 l3]
 obtain ⟨b,hb⟩:∃ b,b=a ^^^ (a / 128):=⟨_,rfl⟩
 have l4:b<2 ^ 64:=by rw [hb]; exact Nat.xor_lt_two_pow l2 l3
 rw [← hb]
 have a3:bShl .u64 (b:Int) (17:Int)=((b * 131072 % 18446744073709551616:Nat):Int):=bShl_nat b 17 (by omega)
 rw [a3,bxor_nat l4 (by omega)]
 have e:Sort.xorNextN x=b ^^^ (b * 131072 % 18446744073709551616):=by rw [hb,ha]; rfl
 rw [e]
theorem bstep_sz {a l m idx:Nat} {st:UInt64 × Array Int} {n:Nat} (h:st.2.size=n):(Sort.breakStep a l m st idx).2.size=n:=by
 unfold Sort.breakStep; simp only; rw [swp_sz,h]
theorem break1_eq {n a b:Nat} (hB:n≤sB) (hb:b≤n) (h8:b - a ≥ 8) {m idx:Nat} {st:UInt64 × Array Int} (hd:st.2.size=n) (h1:a≤idx) (h2:idx<b) (hc:idx≤a + (b - a) / 4 * 2 + 1) :
  Zn n (a:Int) (b:Int) ((1 <<< Sort.bitsLen (b - a):Nat):Int) (m + 1) st.2.toList ((st.1.toNat:Nat):Int) (idx:Int) =
  Zn n (a:Int) (b:Int) ((1 <<< Sort.bitsLen (b - a):Nat):Int) m (Sort.breakStep a (b - a) (1 <<< Sort.bitsLen (b - a)) st idx).2.toList (((Sort.breakStep a (b - a) (1 <<< Sort.bitsLen (b - a)) st idx).1.toNat:Nat):Int) ((idx + 1:Nat):Int):=by
 have hB':=hB
 unfold sB at hB
 obtain ⟨r,d⟩:=st
 simp only at hd ⊢
 have hp:2 ^ Sort.bitsLen (b - a)≤2 * (b - a):=Sort.two_pow_bitsLen_le (by omega)
 have hp0:0<2 ^ Sort.bitsLen (b - a):=Nat.pow_pos (by omega)
 rw [Zn]
 have ew:IntKind.wrap .i64 ((b:Int) - (a:Int))=((b - a:Nat):Int):=wsub (by omega) (by omega)
 have eq4:IntKind.wrap .i64 (Int.tdiv ((b - a:Nat):Int) (4:Int))=(((b - a) / 4:Nat):Int):=by
  rw [Int.tdiv_eq_ediv_of_nonneg (by omega),wi64 (by omega) (by omega)]; omega
 have e5:IntKind.wrap .i64 (IntKind.wrap .i64 ((a:Int) + IntKind.wrap .i64 ((((b - a) / 4:Nat):Int) * (2:Int))) + 1)=((a + (b - a) / 4 * 2 + 1:Nat):Int):=by
  rw [wi64 (x:=(((b - a) / 4:Nat):Int) * 2) (by omega) (by omega),wi64 (x:=(a:Int) + (((b - a) / 4:Nat):Int) * 2) (by omega) (by omega),wi64 (by omega) (by omega)]; omega
 rw [ew,eq4,e5,if_pos (decide_eq_true (by omega)),Next64_eq (UInt64.toNat_lt r)]
 simp only [Option.bind_some]
 have hx:=Sort.xorNext_toNat r
 have hxl:=Sort.xorNextN_lt r.toNat (UInt64.toNat_lt r)
 unfold Sort.breakStep
 simp only
 rw [hx]
 rw [Nat.shiftLeft_eq,Nat.one_mul] at *
 generalize Sort.xorNextN r.toNat=x at hxl ⊢
 have em:IntKind.wrap .u64 (((2 ^ Sort.bitsLen (b - a):Nat):Int) - 1)=((2 ^ Sort.bitsLen (b - a) - 1:Nat):Int):=by
  rw [wu64 (by omega) (by omega)]; omega
 rw [em,band_nat hxl (by omega)]
 have ha:x &&& (2 ^ Sort.bitsLen (b - a) - 1)≤2 ^ Sort.bitsLen (b - a) - 1:=Nat.and_le_right
 generalize x &&& (2 ^ Sort.bitsLen (b - a) - 1)=o at ha ⊢
 rw [wi64 (x:=(o:Int)) (by omega) (by omega)]
 have eo:(if (decide ((o:Int) ≥ ((b - a:Nat):Int)))=true then some (IntKind.wrap .i64 ((o:Int) - ((b - a:Nat):Int))) else some (o:Int))=some ((if o ≥ b - a then o - (b - a) else o:Nat):Int):=by
  by_cases h:o ≥ b - a
  ·rw [if_pos (decide_eq_true (by omega)),if_pos h,wsub (by omega) h]
  ·rw [if_neg (by simp; omega),if_neg h]
 rw [eo]
 have ho:(if o ≥ b - a then o - (b - a) else o)<b - a:=by split <;> omega
 generalize (if o ≥ b - a then o - (b - a) else o)=q at ho ⊢
 simp only [Option.bind_some]
 rw [wadd (by omega)]
 obtain ⟨y,hy⟩:=idxn_set (i:=idx) (x:=d[a + q]!) hd (show a + q<n by omega)
 simp only [idxn_arr hd (show a + q<n by omega),idxn_arr hd (show idx<n by omega),Option.bind_some,Int.toNat_natCast,hy,swp_arr]
 rw [wsuc (by omega)]
theorem break3_eq {n a b:Nat} (hB:n≤sB) (hb:b≤n) (h8:b - a ≥ 8) {m idx:Nat} {st:UInt64 × Array Int} (hd:st.2.size=n) (hi:idx + 1=a + (b - a) / 4 * 2) (g:Nat→UInt64 × Array Int→UInt64 × Array Int) (hg:g=fun i s=>Sort.breakStep a (b - a) (1 <<< Sort.bitsLen (b - a)) s i) :
  ∃ z,Zn n (a:Int) (b:Int) ((1 <<< Sort.bitsLen (b - a):Nat):Int) (m + 1 + 1 + 1 + 1) st.2.toList ((st.1.toNat:Nat):Int) (idx:Int)=some ((g (idx + 2) (g (idx + 1) (g idx st))).2.toList,z):=by
 have hB':=hB
 unfold sB at hB
 have z:∀ i s,s.2.size=n→(g i s).2.size=n:=fun i s h=>by rw [hg]; exact bstep_sz h
 have st1:∀ m i s,s.2.size=n→a≤i→i<b→i≤a + (b - a) / 4 * 2 + 1→Zn n (a:Int) (b:Int) ((1 <<< Sort.bitsLen (b - a):Nat):Int) (m + 1) s.2.toList ((s.1.toNat:Nat):Int) (i:Int)=Zn n (a:Int) (b:Int) ((1 <<< Sort.bitsLen (b - a):Nat):Int) m (g i s).2.toList (((g i s).1.toNat:Nat):Int) ((i + 1:Nat):Int):=fun m i s h h1 h2 hc=>by
  rw [hg]; exact break1_eq hB' hb h8 h h1 h2 hc
 rw [st1 _ _ _ hd (by omega) (by omega) (by omega),st1 _ _ _ (z _ _ hd) (by omega) (by omega) (by omega),st1 _ _ _ (z _ _ (z _ _ hd)) (by omega) (by omega) (by omega)]
 rw [Zn]
 have ew:IntKind.wrap .i64 ((b:Int) - (a:Int))=((b - a:Nat):Int):=wsub (by omega) (by omega)
 have eq4:IntKind.wrap .i64 (Int.tdiv ((b - a:Nat):Int) (4:Int))=(((b - a) / 4:Nat):Int):=by
  rw [Int.tdiv_eq_ediv_of_nonneg (by omega),wi64 (by omega) (by omega)]; omega
 have e6:IntKind.wrap .i64 (IntKind.wrap .i64 ((a:Int) + IntKind.wrap .i64 ((((b - a) / 4:Nat):Int) * (2:Int))) + 1)=((a + (b - a) / 4 * 2 + 1:Nat):Int):=by
  rw [wi64 (x:=(((b - a) / 4:Nat):Int) * 2) (by omega) (by omega),wi64 (x:=(a:Int) + (((b - a) / 4:Nat):Int) * 2) (by omega) (by omega),wi64 (by omega) (by omega)]; omega
 rw [ew,eq4,e6,if_neg (by simp; omega)]
 exact ⟨_,rfl⟩
theorem breakPatterns_eq {n a b:Nat} (hB:n≤1000000) (hb:b≤n) (hab:a≤b) {d:Array Int} (hd:d.size=n) :
  Zar n d.toList (a:Int) (b:Int)=some (Sort.breakPatterns d a b).toList:=by
 have hB':n≤sB:=by unfold sB; omega
 unfold Zar Sort.breakPatterns
 have ew:IntKind.wrap .i64 ((b:Int) - (a:Int))=((b - a:Nat):Int):=wsub (by omega) (by omega)
 rw [ew]
 simp only
 by_cases h8:b - a ≥ 8
 ·rw [if_pos (decide_eq_true (show ((b - a:Nat):Int) ≥ 8 by omega)),if_pos h8]
  unfold Zdr
  rw [wu64 (x:=((b - a:Nat):Int)) (by omega) (by omega),Len_eq (by omega)]
  simp only [Option.bind_some]
  have hp:2 ^ Sort.bitsLen (b - a)≤2 * (b - a):=Sort.two_pow_bitsLen_le (by omega)
  have hl:Sort.bitsLen (b - a)<64:=by
   have:=(Sort.bitsLen_le_iff (b - a) 63).2 (by omega)
   omega
  rw [if_pos (by omega),bShl_one hl]
  simp only [Option.bind_some]
  have es:((2 ^ Sort.bitsLen (b - a):Nat):Int)=((1 <<< Sort.bitsLen (b - a):Nat):Int):=by rw [Nat.shiftLeft_eq,Nat.one_mul]
  have eq4:IntKind.wrap .i64 (Int.tdiv ((b - a:Nat):Int) (4:Int))=(((b - a) / 4:Nat):Int):=by
   rw [Int.tdiv_eq_ediv_of_nonneg (by omega),wi64 (by omega) (by omega)]; omega
  have e5:IntKind.wrap .i64 (IntKind.wrap .i64 ((a:Int) + IntKind.wrap .i64 ((((b - a) / 4:Nat):Int) * (2:Int))) - 1)=((a + (b - a) / 4 * 2 - 1:Nat):Int):=by
   rw [wi64 (x:=(((b - a) / 4:Nat):Int) * 2) (by omega) (by omega),wi64 (x:=(a:Int) + (((b - a) / 4:Nat):Int) * 2) (by omega) (by omega),wi64 (by omega) (by omega)]; omega
  have eu:((b - a:Nat):Int)=(((UInt64.ofNat (b - a)).toNat:Nat):Int):=by
   rw [UInt64.toNat_ofNat_of_lt' (by show b - a<18446744073709551616; omega)]
  rw [es,eq4,e5]
  have hf:fuel=1180591620717411303420 + 1 + 1 + 1 + 1:=by kernel_rfl
  obtain ⟨z,hz⟩:=break3_eq (m:=1180591620717411303420) (idx:=a + (b - a) / 4 * 2 - 1) (st:=(UInt64.ofNat (b - a),d)) hB' hb h8 hd (by omega) _ rfl
  rw [← hf] at hz
  simp only at hz
  rw [eu,hz]
  simp only [Option.bind_some]
 ·rw [if_neg (by simp; omega),if_neg h8]
end Go.AM
set_option maxRecDepth 100000
namespace Go.AM
open Go
theorem swo_lt:Sort.SWO Sort.ltInt:=Sort.swo_ltInt
theorem insS_sz {n a b:Nat} (hab:a≤b) (hb:b≤n) {d:Array Int} (hd:d.size=n):(Sort.insertionSort Sort.ltInt d a b).size=n:=by
 rw [(Sort.insertionSort_holds swo_lt d a b hab (by omega)).1.1,hd]
theorem brk_sz {n a b:Nat} (hab:a≤b) (hb:b≤n) {d:Array Int} (hd:d.size=n):(Sort.breakPatterns d a b).size=n:=by
 rw [(Sort.breakPatterns_holds d a b hab (by omega)).1,hd]
theorem rev_sz {n a b:Nat} (hab:a≤b) (hb:b≤n) {d:Array Int} (hd:d.size=n):(Sort.reverseRange d a b).size=n:=by
 rw [(Sort.reverseRange_holds d a b hab (by omega)).1,hd]
theorem pIns_sz {n a b:Nat}:∀ (s i:Nat) (d:Array Int),d.size=n→(Sort.partialIns Sort.ltInt a b s i d).1.size=n
 | 0,_,d,hd=>hd
 | s + 1,i,d,hd=>by
  rw [Sort.partialIns]
  simp only
  split
  ·exact hd
  ·split
   ·exact hd
   ·refine pIns_sz s _ _ ?_
    split
    ·refine shiftUp_sz _ _ _ ?_ (Nat.le_refl _)
     split
     ·exact shiftDown_sz _ _ (by rw [swp_sz,hd])
     ·rw [swp_sz,hd]
    ·split
     ·exact shiftDown_sz _ _ (by rw [swp_sz,hd])
     ·rw [swp_sz,hd]
theorem part_rng {n a b p:Nat} (hp0:a≤p) (hp:p<b) (hb:b≤n) {d:Array Int} (hd:d.size=n) :
  a≤(Sort.partition Sort.ltInt d a b p).1∧(Sort.partition Sort.ltInt d a b p).1<b∧(Sort.partition Sort.ltInt d a b p).2.2.size=n:=by
 obtain ⟨h1,h2,h3,_⟩:=Sort.partition_holds Sort.ltInt swo_lt d a b p hp0 hp (by omega)
 exact ⟨h1,h2,by rw [h3.1,hd]⟩
theorem partEq_rng {n a b p:Nat} (hp0:a≤p) (hp:p<b) (hb:b≤n) {d:Array Int} (hd:d.size=n) :
  a<(Sort.partitionEqual Sort.ltInt d a b p).1∧(Sort.partitionEqual Sort.ltInt d a b p).1≤b∧(Sort.partitionEqual Sort.ltInt d a b p).2.size=n:=by
 unfold Sort.partitionEqual
 obtain ⟨r1,r2,r3,_⟩:=Sort.partEqLoop_spec Sort.ltInt a b _ (a + 1) (b - 1) (Sort.swp d a p) (Nat.le_refl _) (Nat.lt_succ_self a) (by omega) (by omega) (by rw [swp_sz]; omega) (fun t h1 h2=>by omega) (fun t h1 h2=>by omega)
 exact ⟨r1,r2,by rw [r3.1,swp_sz,hd]⟩
theorem pdq_sz {n:Nat}:∀ (k:Nat) (d:Array Int) (a b limit:Nat) (wb wp:Bool),b - a≤k→d.size=n→a≤b→b≤n→(Sort.pdq Sort.ltInt d a b limit wb wp).size=n:=by
 intro k
 induction k using Nat.strongRecOn with
 | _ k ih=>
 intro d a b limit wb wp hk hd hab hb
 rw [Sort.pdq]
 split
 ·exact insS_sz hab hb hd
 ·rename_i h12
  split
  ·rw [(Sort.heapSort_holds swo_lt d a b hab (by omega)).1.1,hd]
  ·simp only
   have s1:(if (!wb)=true then Sort.breakPatterns d a b else d).size=n:=by
    split
    ·exact brk_sz hab hb hd
    ·exact hd
   generalize (if (!wb)=true then Sort.breakPatterns d a b else d)=d1 at s1 ⊢
   have hc:=Sort.choosePivot_holds Sort.ltInt d1 a b (by omega)
   generalize Sort.choosePivot Sort.ltInt d1 a b=c at hc ⊢
   have s2:(if c.2=.decreasing then Sort.reverseRange d1 a b else d1).size=n:=by
    split
    ·exact rev_sz hab hb s1
    ·exact s1
   generalize (if c.2=.decreasing then Sort.reverseRange d1 a b else d1)=d2 at s2 ⊢
   have hp:a≤(if c.2=.decreasing then (b - 1) - (c.1 - a) else c.1)∧(if c.2=.decreasing then (b - 1) - (c.1 - a) else c.1)<b:=by split <;> omega
   generalize (if c.2=.decreasing then (b - 1) - (c.1 - a) else c.1)=p at hp ⊢
   generalize (if c.2=.decreasing then Sort.Hint.increasing else c.2)=hint
   have s3:(if (wb && wp && decide (hint=.increasing))=true then Sort.partialInsertionSort Sort.ltInt d2 a b else (d2,false)).1.size=n:=by
    split
    ·exact pIns_sz _ _ _ s2
    ·exact s2
   generalize (if (wb && wp && decide (hint=.increasing))=true then Sort.partialInsertionSort Sort.ltInt d2 a b else (d2,false))=pi at s3 ⊢
   split
   ·exact s3
   ·split
    ·obtain ⟨h1,h2,h3⟩:=partEq_rng hp.1 hp.2 hb s3
     rw [dif_pos ⟨h1,h2⟩]
     exact ih _ (by omega) _ _ _ _ _ _ (Nat.le_refl _) h3 h2 hb
    ·obtain ⟨h1,h2,h3⟩:=part_rng hp.1 hp.2 hb s3
     rw [dif_pos ⟨h1,h2⟩]
     split
     ·exact ih _ (by omega) _ _ _ _ _ _ (Nat.le_refl _) (ih _ (by omega) _ _ _ _ _ _ (Nat.le_refl _) h3 h1 (by omega)) h2 hb
     ·exact ih _ (by omega) _ _ _ _ _ _ (Nat.le_refl _) (ih _ (by omega) _ _ _ _ _ _ (Nat.le_refl _) h3 h2 hb) h1 (by omega)
theorem hint_dec (h:Sort.Hint):(hintN h == (2:Int))=decide (h=.decreasing):=by cases h <;> rfl
theorem hint_inc (h:Sort.Hint):(hintN h == (1:Int))=decide (h=.increasing):=by cases h <;> rfl
theorem pdq_eq {n:Nat} (hB:n≤1000000):∀ (k:Nat) (nr m:Nat) (d:Array Int) (a b limit:Nat) (wb wp:Bool),b - a≤k→k≤nr→k<m→d.size=n→a≤b→b≤n→limit<1000 →
  Zab n (Zq nr) m d.toList (a:Int) (b:Int) (limit:Int) wb wp=some (Sort.pdq Sort.ltInt d a b limit wb wp).toList:=by
 have hB':n≤sB:=by unfold sB; omega
 intro k
 induction k using Nat.strongRecOn with
 | _ k ih=>
 intro nr m d a b limit wb wp hk hnr hm hd hab hb hlim
 cases m with
 | zero=>omega
 | succ m=>
 rw [Zab,Sort.pdq]
 have ew:IntKind.wrap .i64 ((b:Int) - (a:Int))=((b - a:Nat):Int):=wsub (by omega) hab
 rw [ew]
 by_cases h12:b - a≤12
 ·rw [if_pos (decide_eq_true (by omega)),if_pos h12,insertionSort_eq hB' hb hab hd]; rfl
 ·rw [if_neg (by simp; omega),if_neg h12]
  by_cases hl:limit=0
  ·rw [if_pos (by simp [hl]),if_pos hl,heapSort_eq hB' (by omega) hb hd]; rfl
  ·rw [if_neg (by simp [hl]),if_neg hl]
   have e1:(if (!wb)=true then (Zar n d.toList (a:Int) (b:Int)).bind fun (r168:(List Int))=>some (r168,(IntKind.wrap .i64 ((limit:Int) - (1:Int)))) else some (d.toList,(limit:Int)))=some ((if (!wb)=true then Sort.breakPatterns d a b else d).toList,((if (!wb)=true then limit - 1 else limit:Nat):Int)):=by
    cases wb with
    | true=>rfl
    | false=>
     simp only [Bool.not_false,if_true]
     rw [breakPatterns_eq hB hb hab hd,wi64 (by omega) (by omega)]
     simp only [Option.bind_some]
     congr 2; omega
   rw [e1]
   have s1:(if (!wb)=true then Sort.breakPatterns d a b else d).size=n:=by
    split
    ·exact brk_sz hab hb hd
    ·exact hd
   have hlim':(if (!wb)=true then limit - 1 else limit)<1000:=by split <;> omega
   simp only [Option.bind_some]
   generalize (if (!wb)=true then Sort.breakPatterns d a b else d)=d1 at s1 ⊢
   generalize (if (!wb)=true then limit - 1 else limit)=limit' at hlim' ⊢
   rw [choosePivot_eq hB' (by omega) hb s1]
   simp only [Option.bind_some,hint_dec]
   have hc:=Sort.choosePivot_holds Sort.ltInt d1 a b (by omega)
   generalize Sort.choosePivot Sort.ltInt d1 a b=c at hc ⊢
   obtain ⟨c1,c2⟩:=c
   simp only at hc ⊢
   have e2:(if decide (c2=Sort.Hint.decreasing)=true then (Zau n d1.toList (a:Int) (b:Int)).bind fun (r181:(List Int))=>some (r181,(IntKind.wrap .i64 ((IntKind.wrap .i64 ((b:Int) - (1:Int))) - (IntKind.wrap .i64 ((c1:Int) - (a:Int))))),(1:Int)) else some (d1.toList,(c1:Int),hintN c2)) =
     some ((if c2=.decreasing then Sort.reverseRange d1 a b else d1).toList,((if c2=.decreasing then (b - 1) - (c1 - a) else c1:Nat):Int),hintN (if c2=.decreasing then Sort.Hint.increasing else c2)):=by
    by_cases h:c2=.decreasing
    ·rw [if_pos (decide_eq_true h),if_pos h,if_pos h,if_pos h,reverseRange_eq hB' (by omega) hb s1]
     have g1:IntKind.wrap .i64 ((b:Int) - 1)=((b - 1:Nat):Int):=by rw [wi64 (by omega) (by omega)]; omega
     rw [g1,wsub (i:=c1) (j:=a) (by omega) (by omega),wsub (i:=b - 1) (j:=c1 - a) (by omega) (by omega)]
     rfl
    ·rw [if_neg (by simpa using h),if_neg h,if_neg h,if_neg h]
   rw [e2]
   have s2:(if c2=.decreasing then Sort.reverseRange d1 a b else d1).size=n:=by
    split
    ·exact rev_sz hab hb s1
    ·exact s1
   have hp:a≤(if c2=.decreasing then (b - 1) - (c1 - a) else c1)∧(if c2=.decreasing then (b - 1) - (c1 - a) else c1)<b:=by split <;> omega
   simp only [Option.bind_some,hint_inc]
   generalize (if c2=.decreasing then Sort.reverseRange d1 a b else d1)=d2 at s2 ⊢
   generalize (if c2=.decreasing then (b - 1) - (c1 - a) else c1)=p at hp ⊢
   generalize (if c2=.decreasing then Sort.Hint.increasing else c2)=hint
   have e3:(if (wb && wp && decide (hint=Sort.Hint.increasing))=true then (Z9 n d2.toList (a:Int) (b:Int)).bind fun (r199:(Bool × (List Int)))=>if r199.1=true then some (Sum.inr r199.2) else some (Sum.inl r199.2) else some (Sum.inl d2.toList)) =
     some (if (if (wb && wp && decide (hint=.increasing))=true then Sort.partialInsertionSort Sort.ltInt d2 a b else (d2,false)).2=true then Sum.inr (if (wb && wp && decide (hint=.increasing))=true then Sort.partialInsertionSort Sort.ltInt d2 a b else (d2,false)).1.toList else (Sum.inl (if (wb && wp && decide (hint=.increasing))=true then Sort.partialInsertionSort Sort.ltInt d2 a b else (d2,false)).1.toList:List Int ⊕ List Int)):=by
    by_cases h:(wb && wp && decide (hint=.increasing))=true
    ·rw [if_pos h,if_pos h,partialInsertionSort_eq hB' hb (by omega) s2]
     simp only [Option.bind_some]
     split <;> rfl
    ·rw [if_neg h,if_neg h]; rfl
   rw [e3]
   have s3:(if (wb && wp && decide (hint=.increasing))=true then Sort.partialInsertionSort Sort.ltInt d2 a b else (d2,false)).1.size=n:=by
    split
    ·exact pIns_sz _ _ _ s2
    ·exact s2
   simp only [Option.bind_some]
   generalize (if (wb && wp && decide (hint=.increasing))=true then Sort.partialInsertionSort Sort.ltInt d2 a b else (d2,false))=pi at s3 ⊢
   obtain ⟨d3,pf⟩:=pi
   simp only at s3 ⊢
   cases pf with
   | true=>rfl
   | false=>
    simp only [Bool.false_eq_true,if_false]
    have e4:((if (decide ((a:Int) > (0:Int)))=true then (idxn n d3.toList (IntKind.wrap .i64 ((a:Int) - (1:Int)))).bind fun (x205:Int)=>(idxn n d3.toList (p:Int)).bind fun (x207:Int)=>(Zz x205 x207).bind fun (r209:Bool)=>some (!r209) else some false)) =
      some (decide (a > 0) && !Sort.ltInt d3[a - 1]! d3[p]!):=by
     cases a with
     | zero=>rfl
     | succ a=>
      rw [if_pos (decide_eq_true (by omega)),wpred (by omega),idxn_arr s3 (by omega),idxn_arr s3 (by omega)]
      simp only [Option.bind_some,Less_eq,Nat.add_sub_cancel,show a + 1 > 0 from Nat.succ_pos a,decide_true,Bool.true_and]
    rw [e4]
    simp only [Option.bind_some]
    by_cases h:(decide (a > 0) && !Sort.ltInt d3[a - 1]! d3[p]!)=true
    ·rw [if_pos h,if_pos h,partitionEqual_eq hB' hb hp.1 hp.2 s3]
     obtain ⟨h1,h2,h3⟩:=partEq_rng hp.1 hp.2 hb s3
     generalize Sort.partitionEqual Sort.ltInt d3 a b p=r at h1 h2 h3 ⊢
     obtain ⟨mid,d4⟩:=r
     simp only [Option.bind_some] at h1 h2 h3 ⊢
     rw [dif_pos ⟨h1,h2⟩]
     exact ih (b - mid) (by omega) nr m d4 mid b limit' wb wp (Nat.le_refl _) (by omega) (by omega) h3 h2 hb hlim'
    ·rw [if_neg h,if_neg h,partition_eq hB' hb hp.1 hp.2 s3]
     obtain ⟨h1,h2,h3⟩:=part_rng hp.1 hp.2 hb s3
     generalize Sort.partition Sort.ltInt d3 a b p=r at h1 h2 h3 ⊢
     obtain ⟨mid,ap,d4⟩:=r
     simp only [Option.bind_some] at h1 h2 h3 ⊢
     rw [dif_pos ⟨h1,h2⟩,wsub (i:=mid) (j:=a) (by omega) h1,wsub (i:=b) (j:=mid) (by omega) (by omega),wsuc (by omega)]
     have e8:IntKind.wrap .i64 (Int.tdiv ((b - a:Nat):Int) (8:Int))=(((b - a) / 8:Nat):Int):=by
      rw [Int.tdiv_eq_ediv_of_nonneg (by omega),wi64 (by omega) (by omega)]; omega
     rw [e8]
     obtain ⟨nr',rfl⟩:∃ nr',nr=nr' + 1:=⟨nr - 1,by omega⟩
     have sub:∀ (d:Array Int) (x y:Nat),d.size=n→x≤y→y≤n→y - x<k→Zq (nr' + 1) n d.toList (x:Int) (y:Int) (limit':Int)=some (Sort.pdq Sort.ltInt d x y limit' true true).toList:=fun d x y hz hxy hy hlt=>by
      rw [Zq,ih (y - x) hlt nr' fuel d x y limit' true true (Nat.le_refl _) (by omega) (by unfold fuel; omega) hz hxy hy hlim']
      rfl
     by_cases h4:mid - a<b - mid
     ·rw [if_pos (decide_eq_true (by omega)),if_pos h4,sub d4 a mid h3 h1 (by omega) (by omega)]
      simp only [Option.bind_some]
      rw [show decide (((mid - a:Nat):Int) ≥ (((b - a) / 8:Nat):Int))=decide (mid - a ≥ (b - a) / 8) from decide_eq_decide.2 (by omega)]
      exact ih (b - (mid + 1)) (by omega) _ m _ (mid + 1) b limit' _ ap (Nat.le_refl _) (by omega) (by omega) (pdq_sz _ _ _ _ _ _ _ (Nat.le_refl _) h3 h1 (by omega)) h2 hb hlim'
     ·rw [if_neg (by simp; omega),if_neg h4,sub d4 (mid + 1) b h3 h2 hb (by omega)]
      simp only [Option.bind_some]
      rw [show decide (((b - mid:Nat):Int) ≥ (((b - a) / 8:Nat):Int))=decide (b - mid ≥ (b - a) / 8) from decide_eq_decide.2 (by omega)]
      exact ih (mid - a) (by omega) _ m _ a mid limit' _ ap (Nat.le_refl _) (by omega) (by omega) (pdq_sz _ _ _ _ _ _ _ (Nat.le_refl _) h3 h2 hb) h1 (by omega) hlim'
theorem Sort_eq {l:List Int} (hl:l.length≤1000000):Zca l.length l=some (l.mergeSort (fun x y=>decide (x≤y))):=by
 unfold Zca
 rw [wu64 (by omega) (by omega),Len_eq (by omega)]
 simp only [Option.bind_some]
 have hb:Sort.bitsLen l.length<1000:=by
  have:=(Sort.bitsLen_le_iff l.length 63).2 (by omega)
  omega
 have hf:fuel=1180591620717411303423 + 1:=by kernel_rfl
 have e:=pdq_eq (n:=l.length) hl l.length 1180591620717411303423 fuel l.toArray 0 l.length (Sort.bitsLen l.length) true true (by omega) (by omega) (by unfold fuel; omega) (by simp) (by omega) (Nat.le_refl _) hb
 rw [show (Zq fuel)=Zq (1180591620717411303423 + 1) from by rw [← hf],Zq]
 rw [show ((0:Nat):Int)=0 from rfl,show l.toArray.toList=l from rfl] at e
 rw [e]
 simp only [Option.bind_some]
 rw [← Sort.sortInt l]
 unfold Sort.sort
 rw [show l.toArray.size=l.length from by simp]
end Go.AM
set_option maxRecDepth 100000
namespace Go.AM
open Go
def dd (l:List Int):List Int:=l.foldl (fun acc x=>if acc.getLast? = some x then acc else acc++[x]) []
theorem dd_snoc (l:List Int) (x:Int):dd (l++[x])=if (dd l).getLast? = some x then dd l else dd l++[x]:=by
 unfold dd; rw [List.foldl_append]; rfl
theorem take_snoc {l:List Int} {k:Nat} (h:k<l.length):l.take (k + 1)=l.take k++[l[k]]:=by
 rw [List.take_add_one,List.getElem?_eq_getElem h]; rfl
theorem snoc_ind {p:List Int→Prop} (h0:p []) (h1:∀ l x,p l→p (l++[x])) (l:List Int):p l:=by
 have key:∀ n (l:List Int),l.length=n→p l:=by
  intro n
  induction n with
  | zero=>intro l hl; rw [List.length_eq_zero_iff.1 hl]; exact h0
  | succ n ih=>
   intro l hl
   rcases List.eq_nil_or_concat l with rfl | ⟨m,x,rfl⟩
   ·exact h0
   ·rw [List.concat_eq_append] at hl ⊢
    exact h1 _ _ (ih m (by simpa using hl))
 exact key _ l rfl
theorem dd_last (l:List Int):(dd l).getLast? = l.getLast?:=by
 refine snoc_ind (p:=fun l=>(dd l).getLast? = l.getLast?) rfl (fun l x ih=>?_) l
 rw [dd_snoc]
 split
 ·rename_i h; rw [h]; simp
 ·simp
theorem dd_mem (l:List Int) (z:Int):z∈dd l ↔ z∈l:=by
 refine snoc_ind (p:=fun l=>z∈dd l ↔ z∈l) (Iff.rfl) (fun l x ih=>?_) l
 rw [dd_snoc]
 split
 ·rename_i h
  have hx:=List.mem_of_getLast? h
  rw [List.mem_append,← ih,List.mem_singleton]
  exact ⟨Or.inl,fun h=>h.elim id fun e=>e ▸ hx⟩
 ·rw [List.mem_append,List.mem_append,ih]
theorem dd_len (l:List Int):(dd l).length≤l.length:=by
 refine snoc_ind (p:=fun l=>(dd l).length≤l.length) (Nat.le_refl _) (fun l x ih=>?_) l
 rw [dd_snoc]
 split <;> simp <;> omega
theorem dd_sorted (l:List Int):l.Pairwise (·≤·)→(dd l).Pairwise (·<·):=by
 refine snoc_ind (p:=fun l=>l.Pairwise (·≤·)→(dd l).Pairwise (·<·)) (fun _=>List.Pairwise.nil) (fun l x ih hp=>?_) l
 rw [List.pairwise_append] at hp
 obtain ⟨h1,_,h3⟩:=hp
 have hd:=ih h1
 rw [dd_snoc]
 split
 ·exact hd
 ·rename_i hne
  rw [List.pairwise_append]
  refine ⟨hd,List.pairwise_singleton _ _,fun a ha b hb=>?_⟩
  rw [List.mem_singleton] at hb
  subst hb
  have hle:=h3 a ((dd_mem l a).1 ha) b (List.mem_singleton.2 rfl)
  rcases Int.lt_or_eq_of_le hle with h | h
  ·exact h
  ·exfalso
   subst h
   rw [dd_last] at hne
   cases hl:l.getLast? with
   | none=>rw [List.getLast?_eq_none_iff] at hl; subst hl; simp [dd] at ha
   | some z=>
    have hz:z∈dd l:=(dd_mem l z).2 (List.mem_of_getLast? hl)
    have hza:=h3 z (List.mem_of_getLast? hl) a (List.mem_singleton.2 rfl)
    have hlast:(dd l).getLast? = some z:=by rw [dd_last,hl]
    have hle2:a≤z:=by
     obtain ⟨m,hm⟩:=List.getLast?_eq_some_iff.1 hlast
     rw [hm] at ha hd
     rw [List.mem_append] at ha
     rcases ha with ha | ha
     ·rw [List.pairwise_append] at hd
      exact Int.le_of_lt (hd.2.2 a ha z (List.mem_singleton.2 rfl))
     ·rw [List.mem_singleton] at ha; omega
    have:z=a:=by omega
    subst this
    exact hne hl
theorem idxn_list {l:List Int} {n i:Nat} (hn:l.length=n) (h:i<n):idxn n l (i:Int)=some (l[i]'(by omega)):=by
 unfold idxn
 rw [if_pos ⟨by omega,by omega⟩,idx_get (by omega)]
theorem dd_take {l:List Int} {k:Nat} (h0:0<k) (h:k<l.length):dd (l.take (k + 1))=if l[k - 1]=l[k] then dd (l.take k) else dd (l.take k)++[l[k]]:=by
 rw [take_snoc h,dd_snoc,dd_last]
 have:(l.take k).getLast? = some (l[k - 1]):=by
  obtain ⟨k,rfl⟩:∃ k',k=k' + 1:=⟨k - 1,by omega⟩
  rw [take_snoc (by omega),List.getLast?_append]; simp
 rw [this]
 simp only [Option.some.injEq]
theorem comp2_eq {l:List Int} {n v1:Nat} (hn:l.length=n) (hB:n≤1000000) (h1:0<v1) (hv:v1<n):∀ (k i w m:Nat) (v:List Int),v.length=n→n - (v1 + i)=k→k<m→0<i→v1 + i≤n→w≤v1 + i - 1 →
  v.take w=dd (l.take (v1 + i))→v.drop (v1 + i - 1)=l.drop (v1 + i - 1) →
  ∃ v' w',Zam n (v1:Int) m v (w:Int) (i:Int)=some (v',((w':Nat):Int))∧v'.length=n∧w'≤n∧v'.take w'=dd l:=by
 intro k
 induction k with
 | zero=>
  intro i w m v hl hk hm hi hle hw ht hdr
  cases m with
  | zero=>omega
  | succ m=>
  rw [Zam]
  simp only [Int.toNat_natCast]
  rw [if_neg (by simp; omega)]
  refine ⟨v,w,rfl,hl,by omega,?_⟩
  rw [ht,List.take_of_length_le (by omega)]
 | succ k ih=>
  intro i w m v hl hk hm hi hle hw ht hdr
  cases m with
  | zero=>omega
  | succ m=>
  have gt:∀ q,v1 + i - 1≤q→(hq:q<n)→v[q]'(by omega)=l[q]'(by omega):=fun q hq1 hq=>by
   have h2:(v.drop (v1 + i - 1))[q - (v1 + i - 1)]? = (l.drop (v1 + i - 1))[q - (v1 + i - 1)]?:=by rw [hdr]
   rw [List.getElem?_drop,List.getElem?_drop,show v1 + i - 1 + (q - (v1 + i - 1))=q by omega,List.getElem?_eq_getElem (by omega),List.getElem?_eq_getElem (by omega)] at h2
   exact Option.some.inj h2
  have iv:∀ q:Nat,(hq:v1 + q<n)→idxv (n - v1) v (v1:Int) (q:Int)=some (v[v1 + q]'(by omega)):=fun q hq=>by
   unfold idxv
   rw [if_pos ⟨by omega,by omega⟩,show (v1:Int) + (q:Int)=((v1 + q:Nat):Int) by omega,idx_get (by omega)]
  have hx:=gt (v1 + i) (by omega) (by omega)
  have hy:=gt (v1 + i - 1) (Nat.le_refl _) (by omega)
  obtain ⟨i',rfl⟩:∃ i',i=i' + 1:=⟨i - 1,by omega⟩
  have hy':v[v1 + i']'(by omega)=l[v1 + i']'(by omega):=hy
  have ds:=dd_take (l:=l) (k:=v1 + (i' + 1)) (by omega) (by omega)
  rw [Zam]
  simp only [Int.toNat_natCast]
  rw [if_pos (decide_eq_true (by omega)),iv (i' + 1) (by omega),wpred (by omega),iv i' (by omega)]
  simp only [Option.bind_some,hx,hy']
  simp only [show v1 + (i' + 1) - 1=v1 + i' by omega] at ds
  by_cases he:l[v1 + (i' + 1)]'(by omega)=l[v1 + i']'(by omega)
  ·rw [if_neg (by simp [he])]
   simp only [Option.bind_some]
   rw [wsuc (by omega)]
   refine ih (i' + 1 + 1) w m v hl (by omega) (by omega) (by omega) (by omega) (by omega) ?_ ?_
   ·rw [ht,show v1 + (i' + 1 + 1)=v1 + (i' + 1) + 1 by omega,ds,if_pos he.symm]
   ·rw [show v1 + (i' + 1 + 1) - 1=(v1 + (i' + 1) - 1) + 1 by omega,← List.drop_drop,← List.drop_drop,hdr]
  ·rw [if_pos (by simpa using he),idxn_list hl (show w<n by omega)]
   simp only [Option.bind_some]
   rw [wsuc (by omega),wsuc (by omega)]
   refine ih (i' + 1 + 1) (w + 1) m _ (by rw [List.length_set,hl]) (by omega) (by omega) (by omega) (by omega) (by omega) ?_ ?_
   ·rw [show v1 + (i' + 1 + 1)=v1 + (i' + 1) + 1 by omega,ds,if_neg (fun h=>he h.symm),← ht]
    rw [take_snoc (by rw [List.length_set]; omega),List.getElem_set_self,List.take_set_of_le (Nat.le_refl _)]
   ·rw [show v1 + (i' + 1 + 1) - 1=v1 + (i' + 1) by omega,List.drop_set_of_lt (by omega)]
    rw [show v1 + (i' + 1)=(v1 + (i' + 1) - 1) + 1 by omega,← List.drop_drop,← List.drop_drop,hdr]
theorem comp1_eq {l:List Int} {n:Nat} (hn:l.length=n) (hB:n≤1000000):∀ (k i m:Nat),n - i=k→k<m→0<i→i≤n→dd (l.take i)=l.take i →
  ∃ o,Zan n l m (i:Int)=some o∧((o=.inl ()∧dd l=l)∨∃ w v,o=.inr (w,v)∧v.length=n∧w≤n∧v.take w=dd l):=by
 intro k
 induction k with
 | zero=>
  intro i m hk hm h0 hi hd
  cases m with
  | zero=>omega
  | succ m=>
  rw [Zan,if_neg (by simp; omega)]
  rw [List.take_of_length_le (by omega)] at hd
  exact ⟨_,rfl,Or.inl ⟨rfl,hd⟩⟩
 | succ k ih=>
  intro i m hk hm h0 hi hd
  cases m with
  | zero=>omega
  | succ m=>
  have ds:=dd_take (l:=l) h0 (by omega)
  rw [Zan,if_pos (decide_eq_true (by omega)),idxn_list hn (show i<n by omega)]
  obtain ⟨i',rfl⟩:∃ i',i=i' + 1:=⟨i - 1,by omega⟩
  rw [wpred (by omega),idxn_list hn (show i'<n by omega)]
  simp only [Option.bind_some,Nat.add_sub_cancel] at ds ⊢
  by_cases he:l[i' + 1]'(by omega)=l[i']'(by omega)
  ·rw [if_pos (by simpa using he),if_pos ⟨by omega,by omega,by omega⟩]
   obtain ⟨v,w,e,g1,g2,g3⟩:=comp2_eq hn hB (show 0<i' + 1 by omega) (by omega) (n - (i' + 1 + 1)) 1 (i' + 1) fuel l hn rfl (by unfold fuel; omega) (by omega) (by omega) (by omega) (by rw [ds,if_pos he.symm,hd]) rfl
   rw [show ((1:Nat):Int)=1 from rfl] at e
   rw [e]
   simp only [Option.bind_some,Int.toNat_natCast]
   rw [if_pos ⟨by omega,by omega,by omega⟩,if_pos (by omega),if_pos ⟨by omega,by omega,by omega⟩]
   refine ⟨_,rfl,Or.inr ⟨w,_,rfl,?_,g2,?_⟩⟩
   ·simp only [List.length_append,List.length_take,List.length_replicate,List.length_drop]; omega
   ·rw [List.append_assoc,List.take_append_of_le_length (by rw [List.length_take]; omega),List.take_take,Nat.min_self,g3]
  ·rw [if_neg (by simpa using he),wsuc (by omega)]
   refine ih (i' + 1 + 1) m (by omega) (by omega) (by omega) (by omega) ?_
   rw [ds,if_neg (fun h=>he h.symm),hd,← take_snoc]
theorem Compact_eq {l:List Int} (hB:l.length≤1000000):∃ w v,Zbx l.length l=some (w,v)∧v.length=l.length∧w≤l.length∧v.take w=dd l:=by
 unfold Zbx
 by_cases h:l.length<2
 ·rw [if_pos (decide_eq_true (by omega))]
  refine ⟨_,_,rfl,rfl,Nat.le_refl _,?_⟩
  rw [List.take_length]
  rcases l with _ | ⟨a,_ | ⟨b,l⟩⟩
  ·rfl
  ·rfl
  ·simp at h; omega
 ·rw [if_neg (by simp; omega)]
  have h1:dd (l.take 1)=l.take 1:=by
   rcases l with _ | ⟨a,l⟩
   ·rfl
   ·rfl
  obtain ⟨o,e,ho⟩:=comp1_eq rfl hB (l.length - 1) 1 fuel rfl (by unfold fuel; omega) (by omega) (by omega) h1
  rw [show ((1:Nat):Int)=1 from rfl] at e
  rw [e]
  rcases ho with ⟨rfl,hd⟩ | ⟨w,v,rfl,g1,g2,g3⟩
  ·exact ⟨_,_,rfl,rfl,Nat.le_refl _,by rw [List.take_length,hd]⟩
  ·exact ⟨w,v,rfl,g1,g2,g3⟩
end Go.AM
set_option maxRecDepth 100000
namespace Go.AM
open Go
def hv (h:api_Header):Arr5 Int:=⟨h.Src,h.Dst,h.Proto,h.SrcPort,h.DstPort⟩
def allF (f:Int→Bool):Bool:=!(f 0 || f 1 || f 2 || f 3 || f 4)
def difM (m:api_Move) (k:Int):Bool:=(IntKind.wrap .u32 ((m.From.get k).Hi - (m.From.get k).Lo)) != (IntKind.wrap .u32 ((m.To.get k).Hi - (m.To.get k).Lo))
def vM (m:api_Move):Bool:=vB m.From && vB m.To && allF (difM m)
theorem validMove_eq (m:api_Move):Zci m=some (vM m):=by
 unfold Zci vM
 rw [Valid_eq,Valid_eq,five_find (L:=Zb1 m) (bad:=difM m) (fun n k h0 h1=>by
  rw [Zb1]
  simp only [show k<5 from h1,decide_true,if_true,show 0≤k∧k<5 from ⟨h0,h1⟩,and_self,wnext h0 (by omega:k<1000000)]
  rfl) (fun n=>by rw [Zb1]; rfl)]
 unfold allF
 cases vB m.From <;> cases vB m.To <;> cases (difM m 0 || difM m 1 || difM m 2 || difM m 3 || difM m 4) <;> rfl
def turn (m:api_Move):api_Move:=⟨m.To,m.From⟩
end Go.AM
set_option maxRecDepth 100000
namespace Go.AM
open Go
def hdr (v:Arr5 Int):api_Header:=⟨v.x0,v.x1,v.x2,v.x3,v.x4⟩
structure VOk (v:Arr5 Int):Prop where
 h0:0≤v.x0∧v.x0≤4294967295
 h1:0≤v.x1∧v.x1≤4294967295
 h2:0≤v.x2∧v.x2≤255
 h3:0≤v.x3∧v.x3≤65535
 h4:0≤v.x4∧v.x4≤65535
theorem VOk.set {v:Arr5 Int} (h:VOk v) {k x:Int} (h0:0≤k) (h1:k<5) (hx0:0≤x) (hx:x≤topOf k):VOk (v.set k x):=by
 obtain ⟨g0,g1,g2,g3,g4⟩:=h
 rcases five h0 h1 with rfl | rfl | rfl | rfl | rfl
 ·exact ⟨⟨hx0,hx⟩,g1,g2,g3,g4⟩
 ·exact ⟨g0,⟨hx0,hx⟩,g2,g3,g4⟩
 ·exact ⟨g0,g1,⟨hx0,hx⟩,g3,g4⟩
 ·exact ⟨g0,g1,g2,⟨hx0,hx⟩,g4⟩
 ·exact ⟨g0,g1,g2,g3,⟨hx0,hx⟩⟩
theorem VOk.get {v:Arr5 Int} (h:VOk v) {k:Int} (h0:0≤k) (h1:k<5):0≤v.get k∧v.get k≤topOf k:=by
 obtain ⟨g0,g1,g2,g3,g4⟩:=h
 rcases five h0 h1 with rfl | rfl | rfl | rfl | rfl
 ·exact g0
 ·exact g1
 ·exact g2
 ·exact g3
 ·exact g4
theorem vB_get {b:Arr5 api_Range} (h:BIn b) (hv:vB b=true) {k:Int} (h0:0≤k) (h1:k<5):0≤(b.get k).Lo∧(b.get k).Lo≤(b.get k).Hi∧(b.get k).Hi≤topOf k:=by
 obtain ⟨g0,g1,g2,g3,g4⟩:=vB_ok h hv
 rcases five h0 h1 with rfl | rfl | rfl | rfl | rfl
 ·exact ⟨g0.h0,g0.h1,g0.h2⟩
 ·exact ⟨g1.h0,g1.h1,g1.h2⟩
 ·exact ⟨g2.h0,g2.h1,g2.h2⟩
 ·exact ⟨g3.h0,g3.h1,g3.h2⟩
 ·exact ⟨g4.h0,g4.h1,g4.h2⟩
structure MIn (m:api_Move):Prop where
 f:BIn m.From
 t:BIn m.To
theorem allF_get {f:Int→Bool} (h:allF f=true) {k:Int} (h0:0≤k) (h1:k<5):f k=false:=by
 unfold allF at h
 simp only [Bool.not_eq_true',Bool.or_eq_false_iff] at h
 obtain ⟨⟨⟨⟨g0,g1⟩,g2⟩,g3⟩,g4⟩:=h
 rcases five h0 h1 with rfl | rfl | rfl | rfl | rfl <;> assumption
theorem topOf_lt {k:Int} (h0:0≤k) (h1:k<5):0≤topOf k∧topOf k≤4294967295:=by
 rcases five h0 h1 with rfl | rfl | rfl | rfl | rfl <;> decide
def shr (a f t:api_Range):api_Range:=⟨IntKind.wrap .u32 (IntKind.wrap .u32 (a.Lo - f.Lo) + t.Lo),IntKind.wrap .u32 (IntKind.wrap .u32 (a.Hi - f.Lo) + t.Lo)⟩
def shB (a f t:Arr5 api_Range):Arr5 api_Range:=⟨shr a.x0 f.x0 t.x0,shr a.x1 f.x1 t.x1,shr a.x2 f.x2 t.x2,shr a.x3 f.x3 t.x3,shr a.x4 f.x4 t.x4⟩
end Go.AM
set_option maxRecDepth 100000
namespace Go.AM
open Go
abbrev Bx:=Arr5 api_Range
def toL (b:Bx):List api_Range:=[b.x0,b.x1,b.x2,b.x3,b.x4]
def sf (f:Nat) (b:Bx):List api_Range:=(toL b).drop f
def zr:api_Range:=⟨0,0⟩
def ofL:List api_Range→Bx
 | [a,b,c,d,e]=>⟨a,b,c,d,e⟩
 | _=>⟨zr,zr,zr,zr,zr⟩
def pad (f:Nat) (l:List api_Range):Bx:=ofL (List.replicate f zr++l)
def tops5:List Int:=[4294967295,4294967295,255,65535,65535]
theorem fiveN {f:Nat} (h:f<5):f=0∨f=1∨f=2∨f=3∨f=4:=by omega
theorem sf_succ {f:Nat} (h:f<5) (b:Bx):sf f b=b.get (f:Int) :: sf (f + 1) b:=by
 rcases fiveN h with rfl | rfl | rfl | rfl | rfl <;> rfl
theorem sf_len {f:Nat} (h:f≤5) (b:Bx):(sf f b).length=5 - f:=by unfold sf toL; rw [List.length_drop]; rfl
theorem tops_succ {f:Nat} (h:f<5):tops5.drop f=topOf (f:Int) :: tops5.drop (f + 1):=by
 rcases fiveN h with rfl | rfl | rfl | rfl | rfl <;> rfl
theorem len4 {l:List api_Range} {n:Nat} (h:l.length=n):match n with
  | 0=>l=[]
  | 1=>∃ a,l=[a]
  | 2=>∃ a b,l=[a,b]
  | 3=>∃ a b c,l=[a,b,c]
  | 4=>∃ a b c d,l=[a,b,c,d]
  | 5=>∃ a b c d e,l=[a,b,c,d,e]
  | _=>True:=by
 subst h
 rcases l with _ | ⟨a,_ | ⟨b,_ | ⟨c,_ | ⟨d,_ | ⟨e,_ | ⟨g,l⟩⟩⟩⟩⟩⟩
 ·exact rfl
 ·exact ⟨_,rfl⟩
 ·exact ⟨_,_,rfl⟩
 ·exact ⟨_,_,_,rfl⟩
 ·exact ⟨_,_,_,_,rfl⟩
 ·exact ⟨_,_,_,_,_,rfl⟩
 ·exact trivial
theorem set_pad {f:Nat} (h:f<5) {l:List api_Range} (hl:l.length=4 - f) (r:api_Range):(pad (f + 1) l).set (f:Int) r=pad f (r :: l):=by
 have h1:=len4 hl
 rcases fiveN h with rfl | rfl | rfl | rfl | rfl
 ·obtain ⟨a,b,c,d,rfl⟩:=h1; rfl
 ·obtain ⟨a,b,c,rfl⟩:=h1; rfl
 ·obtain ⟨a,b,rfl⟩:=h1; rfl
 ·obtain ⟨a,rfl⟩:=h1; rfl
 ·cases h1; rfl
theorem toL_ofL {l:List api_Range} (h:l.length=5):toL (ofL l)=l:=by
 obtain ⟨a,b,c,d,e,rfl⟩:=len4 h
 rfl
theorem ofL_toL (b:Bx):ofL (toL b)=b:=rfl
theorem sf_pad {f:Nat} (h:f≤5) {l:List api_Range} (hl:l.length=5 - f):sf f (pad f l)=l:=by
 unfold sf pad
 rw [toL_ofL (by simp; omega),List.drop_left' (by simp)]
theorem toL_inj {b b':Bx} (h:toL b=toL b'):b=b':=by rw [← ofL_toL b,h,ofL_toL]
instance decBx:DecidableEq Bx:=fun a b=>if h:toL a=toL b then .isTrue (toL_inj h) else .isFalse fun e=>h (by rw [e])
theorem eq_rg (a b:api_Range):Zdh a b=decide (a=b):=by
 obtain ⟨a1,a2⟩:=a
 obtain ⟨b1,b2⟩:=b
 simp only [Zdh,Bool.and_true,api_Range.mk.injEq]
 rw [Bool.eq_iff_iff]; simp
theorem eq_bx (a b:Bx):Zd5 a b=decide (a=b):=by
 obtain ⟨a0,a1,a2,a3,a4⟩:=a
 obtain ⟨b0,b1,b2,b3,b4⟩:=b
 simp only [Zd5,Bool.and_true,eq_rg,Arr5.mk.injEq]
 rw [Bool.eq_iff_iff]; simp
theorem findI_ne {α:Type} [DecidableEq α]:∀ (l pre b:List α),l.length + pre.length=b.length→findI (fun i x=>if b[i]? = some x then none else some false) pre.length l=if l=b.drop pre.length then none else some false
 | [],pre,b,h=>by simp at h; rw [h]; simp [findI]
 | x :: l,pre,b,h=>by
  simp only [List.length_cons] at h
  have hi:pre.length<b.length:=by omega
  rw [List.drop_eq_getElem_cons hi]
  simp only [findI,List.getElem?_eq_getElem hi,List.cons.injEq,Option.some.injEq]
  by_cases e:b[pre.length]=x
  ·rw [if_pos e]
   simp only [e,true_and]
   have:=findI_ne l (pre++[x]) b (by simp; omega)
   simp only [List.length_append,List.length_singleton] at this
   exact this
  ·rw [if_neg e,if_neg (fun h=>e h.1.symm)]
theorem Equal_eq {a b:List Bx} (ha:a.length≤1000000000000):Zaa a b=some (decide (a=b)):=by
 unfold Zaa
 by_cases hl:a.length=b.length
 ·rw [if_neg (by simp [hl])]
  rw [list_find (L:=Zal a b) a (fun i x=>if b[i]? = some x then none else some false) ha (fun n i hi=>by
   have hj:i<b.length:=by omega
   rw [Zal]
   simp only [show ((i:Int)<(a.length:Int)) from by omega,decide_true,if_true,idx_get hi,idx_get hj,Option.bind_some,eq_bx,wsucc (by omega:i<1000000000001),List.getElem?_eq_getElem hj,Option.some.injEq]
   by_cases e:a[i]=b[i]
   ·simp [e]
   ·rw [if_neg (show ¬ b[i]=a[i] from fun h=>e h.symm)]; simp [e]) (fun n=>by rw [Zal]; simp)]
  have:=findI_ne a [] b (by simpa using hl)
  simp only [List.length_nil,List.drop_zero] at this
  rw [this]
  by_cases e:a=b
  ·simp [e,orS]
  ·simp [e,orS]
 ·rw [if_pos (by simp; omega)]
  rw [decide_eq_false (fun e=>hl (by rw [e]))]
theorem Same_eq {a b:List Bx} (ha:a.length≤1000000000000):Zen a b=some (decide (a=b)):=by
 unfold Zen
 by_cases hl:a.length=b.length
 ·rw [if_neg (by simp [hl])]
  rw [list_find (L:=Zcz a b) a (fun i x=>if b[i]? = some x then none else some false) ha (fun n i hi=>by
   have hj:i<b.length:=by omega
   rw [Zcz]
   simp only [show ((i:Int)<(a.length:Int)) from by omega,decide_true,if_true,idx_get hi,idx_get hj,Option.bind_some,eq_bx,wsucc (by omega:i<1000000000001),List.getElem?_eq_getElem hj,Option.some.injEq]
   by_cases e:a[i]=b[i]
   ·simp [e]
   ·rw [if_neg (show ¬ b[i]=a[i] from fun h=>e h.symm)]; simp [e]) (fun n=>by rw [Zcz]; simp)]
  have:=findI_ne a [] b (by simpa using hl)
  simp only [List.length_nil,List.drop_zero] at this
  rw [this]
  by_cases e:a=b
  ·simp [e,orS]
  ·simp [e,orS]
 ·rw [if_pos (by simp; omega)]
  rw [decide_eq_false (fun e=>hl (by rw [e]))]
def cov (a:List Bx) (f v:Int):List Bx:=a.filter fun b=>inR v (b.get f)
theorem foldI_filter {α:Type} (p:α→Bool):∀ (l acc:List α) (i:Nat),foldI (fun s _ x=>if p x=true then s++[x] else s) acc i l=acc++l.filter p
 | [],acc,i=>by simp [foldI]
 | x :: xs,acc,i=>by
  simp only [foldI,List.filter_cons]
  rw [foldI_filter p xs]
  cases p x <;> simp
theorem inR_eq (v:Int) (r:api_Range):inR v r=(decide (r.Lo≤v) && decide (v≤r.Hi)):=rfl
theorem covering_eq {a:List Bx} (ha:a.length≤2000000000) {f:Int} (h0:0≤f) (h1:f<5) (v:Int):Zbb a f v=some (cov a f v):=by
 unfold Zbb
 have:=list_fold (L:=Zbu a f v) a (fun s _ x=>if inR v (x.get f)=true then s++[x] else s) id (fun i s=>s.length≤i) (by omega) (fun n s i hi hs=>by
  rw [Zbu]
  simp only [show ((i:Int)<(a.length:Int)) from by omega,decide_true,if_true,idx_get hi,Option.bind_some,wsucc (by omega:i<1000000000001),List.length_singleton]
  rw [if_pos ⟨h0,h1⟩,inR_eq]
  rw [if_pos (show s.length + 1≤lim by unfold lim; omega)]
  cases decide (((a[i]).get f).Lo≤v) <;> cases decide (v≤((a[i]).get f).Hi) <;> simp [h0,h1] <;> omega) (fun n s hs=>by rw [Zbu]; simp) [] (Nat.le_refl _)
 rw [this.1,foldI_filter]
 rfl
theorem at_eq {a:List Bx} (ha:a.length≤2000000000) {f:Int} (h0:0≤f) (h1:f<5) (v:Int) (hin:∀ b∈a,BIn b):Zfh a f v=some (cov a f v):=by
 unfold Zfh
 have:=list_fold (L:=Zdj a f v) a (fun s _ x=>if inR v (x.get f)=true then s++[x] else s) id (fun i s=>s.length≤i) (by omega) (fun n s i hi hs=>by
  rw [Zdj]
  have hb:=(hin _ (List.getElem_mem hi)).get f
  have e1:IntKind.wrap .u64 ((a[i]).get f).Lo=((a[i]).get f).Lo:=wu64 hb.h0 (by have:=hb.h1; omega)
  have e2:IntKind.wrap .u64 ((a[i]).get f).Hi=((a[i]).get f).Hi:=wu64 hb.h2 (by have:=hb.h3; omega)
  simp only [show ((i:Int)<(a.length:Int)) from by omega,decide_true,if_true,idx_get hi,Option.bind_some,wsucc (by omega:i<1000000000001),List.length_singleton,e1,e2]
  rw [if_pos ⟨h0,h1⟩,inR_eq]
  rw [if_pos (show s.length + 1≤lim by unfold lim; omega)]
  cases decide (((a[i]).get f).Lo≤v) <;> cases decide (v≤((a[i]).get f).Hi) <;> simp [h0,h1] <;> omega) (fun n s hs=>by rw [Zdj]; simp) [] (Nat.le_refl _)
 rw [this.1,foldI_filter]
 rfl
theorem cov_atv {f:Nat} (h:f<5) (a:List Bx) (v:Int):(cov a (f:Int) v).map (sf (f + 1))=atv (a.map (sf f)) v:=by
 induction a with
 | nil=>rfl
 | cons b a ih=>
  have e:atv ((b :: a).map (sf f)) v=(if inR v (b.get (f:Int)) then [sf (f + 1) b] else [])++atv (a.map (sf f)) v:=by
   rw [List.map_cons,sf_succ h]; rfl
  rw [e,← ih]
  unfold cov
  rw [List.filter_cons]
  cases inR v (b.get (f:Int)) <;> simp
theorem cov_len (a:List Bx) (f v:Int):(cov a f v).length≤a.length:=List.length_filter_le ..
theorem cov_mem {a:List Bx} {f v:Int} {b:Bx} (h:b∈cov a f v):b∈a:=(List.mem_filter.1 h).1
theorem valid1_eq (b:Bx):Zb4 b=some (!vB b):=by
 unfold Zb4; rw [Valid_eq]; rfl
theorem rvalid_eq {a:List Bx} (ha:a.length≤2000000000):Zd9 a=some (a.filter vB):=by
 unfold Zd9
 have:=list_fold (L:=Zcw a) a (fun s _ x=>if vB x=true then s++[x] else s) id (fun i s=>s.length≤i) (by omega) (fun n s i hi hs=>by
  rw [Zcw]
  simp only [show ((i:Int)<(a.length:Int)) from by omega,decide_true,if_true,idx_get hi,Option.bind_some,wsucc (by omega:i<1000000000001),List.length_singleton,rValid_eq]
  rw [if_pos (show s.length + 1≤lim by unfold lim; omega)]
  cases vB a[i] <;> simp <;> omega) (fun n s hs=>by rw [Zcw]; simp) [] (Nat.le_refl _)
 rw [this.1,foldI_filter]
 rfl
theorem idxn_gen {α:Type} {l:List α} {n i:Nat} (hn:l.length=n) (h:i<n):idxn n l (i:Int)=some (l[i]'(by omega)):=by
 unfold idxn
 rw [if_pos ⟨by omega,by omega⟩,idx_get (by omega)]
theorem del_loop {l:List Bx} {n:Nat} (hn:l.length=n) (hB:n≤2000000000):∀ (k j w m:Nat) (v:List Bx),n - j=k→k<m→v.length=n→w<j→j≤n→v.take w=(l.take j).filter vB→v.drop j=l.drop j →
  ∃ v' w',Zt n m v (w:Int) (j:Int)=some (v',((w':Nat):Int))∧v'.length=n∧w'≤n∧v'.take w'=l.filter vB:=by
 intro k
 induction k with
 | zero=>
  intro j w m v hk hm hv hw hj ht hd
  cases m with
  | zero=>omega
  | succ m=>
  rw [Zt,if_neg (by simp; omega)]
  refine ⟨v,w,rfl,hv,by omega,?_⟩
  rw [ht,List.take_of_length_le (by omega)]
 | succ k ih=>
  intro j w m v hk hm hv hw hj ht hd
  cases m with
  | zero=>omega
  | succ m=>
  have hjn:j<n:=by omega
  have hx:v[j]'(by omega)=l[j]'(by omega):=by
   have h2:(v.drop j)[0]? = (l.drop j)[0]?:=by rw [hd]
   rw [List.getElem?_drop,List.getElem?_drop,Nat.add_zero,List.getElem?_eq_getElem (by omega),List.getElem?_eq_getElem (by omega)] at h2
   exact Option.some.inj h2
  have tk:(l.take (j + 1)).filter vB=(l.take j).filter vB++if vB (l[j]'(by omega))=true then [l[j]'(by omega)] else []:=by
   rw [List.take_add_one,List.getElem?_eq_getElem (by omega),List.filter_append]
   congr 1
   simp only [Option.toList_some,List.filter_cons,List.filter_nil]
  rw [Zt]
  rw [if_pos (decide_eq_true (by omega)),idxn_gen hv hjn]
  simp only [Option.bind_some,valid1_eq,hx,Bool.not_not]
  by_cases hval:vB (l[j]'(by omega))=true
  ·rw [if_pos hval,idxn_gen hv (by omega:w<n)]
   simp only [Option.bind_some,Int.toNat_natCast]
   rw [wsuc (by omega),wsuc (by omega)]
   refine ih (j + 1) (w + 1) m _ (by omega) (by omega) (by rw [List.length_set]; exact hv) (by omega) (by omega) ?_ ?_
   ·rw [tk,if_pos hval,← ht,List.take_add_one,List.getElem?_eq_getElem (by rw [List.length_set]; omega),List.getElem_set_self,List.take_set_of_le (Nat.le_refl _)]
    rfl
   ·rw [List.drop_set_of_lt (by omega),← List.drop_drop,hd,List.drop_drop]
  ·rw [if_neg hval]
   simp only [Option.bind_some]
   rw [wsuc (by omega)]
   refine ih (j + 1) w m v (by omega) (by omega) hv (by omega) (by omega) ?_ ?_
   ·rw [tk,if_neg hval,List.append_nil,ht]
   ·rw [← List.drop_drop,hd,List.drop_drop]
theorem findI_split {α:Type} (p:α→Bool):∀ (l:List α) (i:Nat),(findI (fun i x=>if p x=true then some ((i:Nat):Int) else none) i l=none∧∀ x∈l,p x=false) ∨
  ∃ j,findI (fun i x=>if p x=true then some ((i:Nat):Int) else none) i l=some ((i + j:Nat):Int)∧∃ h:j<l.length,p l[j]=true∧∀ x∈l.take j,p x=false
 | [],i=>Or.inl ⟨rfl,fun _ h=>(by cases h)⟩
 | x :: l,i=>by
  by_cases hx:p x=true
  ·exact Or.inr ⟨0,by simp only [findI,if_pos hx]; rfl,by simp,hx,fun _ h=>(by cases h)⟩
  ·rcases findI_split p l (i + 1) with ⟨h1,h2⟩ | ⟨j,h1,h2,h3,h4⟩
   ·refine Or.inl ⟨by simp only [findI,if_neg hx,h1],fun y hy=>?_⟩
    rcases List.mem_cons.1 hy with rfl | hy
    ·simpa using hx
    ·exact h2 y hy
   ·refine Or.inr ⟨j + 1,by simp only [findI,if_neg hx,h1]; rw [show i + 1 + j=i + (j + 1) by omega],by simp only [List.length_cons]; omega,by simpa using h3,fun y hy=>?_⟩
    rw [List.take_succ_cons] at hy
    rcases List.mem_cons.1 hy with rfl | hy
    ·simpa using hx
    ·exact h4 y hy
theorem del_eq {l:List Bx} (hB:l.length≤2000000000):∃ w v,Zah l.length l=some (w,v)∧v.length=l.length∧w≤l.length∧v.take w=l.filter vB:=by
 unfold Zah Za5
 rw [list_find (L:=Zu l.length l) l (fun i x=>if (!vB x)=true then some ((i:Nat):Int) else none) (by omega) (fun n i hi=>by
  rw [Zu]
  simp only [show ((i:Int)<(l.length:Int)) from by omega,decide_true,if_true,idxn_gen rfl hi,Option.bind_some,valid1_eq,wsucc (by omega:i<1000000000001)]
  cases vB l[i] <;> rfl) (fun n=>by rw [Zu]; simp)]
 rcases findI_split (fun x=>!vB x) l 0 with ⟨h1,h2⟩ | ⟨j,h1,h2,h3,h4⟩
 ·rw [h1]
  simp only [orS,Option.bind_some]
  rw [if_pos (by decide)]
  refine ⟨_,_,rfl,rfl,Nat.le_refl _,?_⟩
  rw [List.take_length,List.filter_eq_self.2 fun x hx=>by simpa using h2 x hx]
 ·rw [h1]
  simp only [orS,Option.bind_some]
  rw [if_neg (by simp),Nat.zero_add,wsuc (by omega)]
  have tk:(l.take j).filter vB=l.take j:=List.filter_eq_self.2 fun x hx=>by simpa using h4 x hx
  obtain ⟨v,w,e,g1,g2,g3⟩:=del_loop rfl hB (l.length - (j + 1)) (j + 1) j fuel l rfl (by unfold fuel; omega) rfl (by omega) (by omega) (by
   rw [List.take_add_one,List.filter_append,List.getElem?_eq_getElem h2,tk]
   have:vB l[j]=false:=by simpa using h3
   simp [this]) rfl
  rw [e]
  simp only [Option.bind_some,Int.toNat_natCast]
  rw [if_pos ⟨by omega,by omega,by omega⟩,if_pos (by omega),if_pos ⟨by omega,by omega,by omega⟩]
  refine ⟨_,_,rfl,?_,g2,?_⟩
  ·simp only [List.length_append,List.length_take,List.length_replicate,List.length_drop]; omega
  ·rw [List.append_assoc,List.take_append_of_le_length (by rw [List.length_take]; omega),List.take_take,Nat.min_self,g3]
theorem pvalid_eq {l:List Bx} (hB:l.length≤2000000000):Zdn l=some (l.filter vB):=by
 unfold Zdn
 rw [if_pos (by unfold lim; omega)]
 cases l with
 | nil=>rfl
 | cons b l=>
  obtain ⟨w,v,e,g1,g2,g3⟩:=del_eq hB
  rw [e]
  simp only [handB,Option.bind_some]
  rw [if_pos ⟨g1,by omega⟩]
  simp only [Option.bind_some,g3]
end Go.AM
set_option maxRecDepth 100000
namespace Go.AM
open Go
theorem BTop_eq {f:Nat} (h:f<5):Zh0 (f:Int)=some (topOf (f:Int)):=by
 rcases fiveN h with rfl | rfl | rfl | rfl | rfl <;> rfl
theorem topN {f:Nat} (h:f<5):0≤topOf (f:Int)∧topOf (f:Int)≤4294967295:=topOf_lt (by omega) (by omega)
theorem BOk.at_ {b:Bx} (h:BOk b) {f:Nat} (hf:f<5):0≤(b.get (f:Int)).Lo∧(b.get (f:Int)).Lo≤(b.get (f:Int)).Hi∧(b.get (f:Int)).Hi≤topOf (f:Int):=
 vB_get h.bin (ok_vB h) (by omega) (by omega)
structure Pts (f:Nat) (l:List Bx) (ps:List Int):Prop where
 asc:ps.Pairwise (·<·)
 h0:∃ tl,ps=0 :: tl
 hl:ps.getLast? = some (topOf (f:Int) + 1)
 cut:∀ b∈l,(b.get (f:Int)).Lo∈ps∧(b.get (f:Int)).Hi + 1∈ps
 len:ps.length≤2 * l.length + 2
theorem asc_head {ps:List Int} (ha:ps.Pairwise (·<·)) {z:Int} (hz:z∈ps) (hb:∀ x∈ps,z≤x):∃ tl,ps=z :: tl:=by
 cases ps with
 | nil=>cases hz
 | cons p ps=>
  rcases List.mem_cons.1 hz with rfl | h
  ·exact ⟨ps,rfl⟩
  ·have:=(List.pairwise_cons.1 ha).1 z h
   have:=hb p (List.mem_cons_self ..)
   omega
theorem asc_last {ps:List Int} (ha:ps.Pairwise (·<·)) {z:Int} (hz:z∈ps) (hb:∀ x∈ps,x≤z):ps.getLast? = some z:=by
 rcases List.eq_nil_or_concat ps with rfl | ⟨qs,p,rfl⟩
 ·cases hz
 ·rw [List.concat_eq_append] at *
  rw [List.getLast?_concat]
  rcases List.mem_append.1 hz with h | h
  ·have:=(List.pairwise_append.1 ha).2.2 z h p (List.mem_singleton.2 rfl)
   have:=hb p (List.mem_append_right _ (List.mem_singleton.2 rfl))
   omega
  ·rw [List.mem_singleton] at h; rw [h]
def rawC (f:Int) (l:List Bx):List Int:=l.flatMap fun b=>[(b.get f).Lo,(b.get f).Hi + 1]
theorem rawC_len (f:Int) (l:List Bx):(rawC f l).length=2 * l.length:=by
 induction l with
 | nil=>rfl
 | cons b l ih=>unfold rawC at *; rw [List.flatMap_cons,List.length_append,ih]; simp; omega
theorem cuts2_eq {f:Nat} (hf:f<5) {l:List Bx} (hl:l.length≤400000) (hin:∀ b∈l,BOk b) (acc:List Int) (ha:acc.length≤1000000):Zb5 (f:Int) l fuel acc 0=some (acc++rawC f l):=by
 have:=list_fold (L:=Zb5 (f:Int) l) l (fun s _ x=>s++[(x.get (f:Int)).Lo,(x.get (f:Int)).Hi + 1]) id (fun i s=>s.length≤1000000 + 2 * i) (by omega) (fun n s i hi hs=>by
  have hb:=(hin _ (List.getElem_mem hi)).at_ hf
  have ht:=topN hf
  rw [Zb5]
  simp only [show ((i:Int)<(l.length:Int)) from by omega,decide_true,if_true,idx_get hi,Option.bind_some,wsucc (by omega:i<1000000000001),List.length_cons,List.length_nil]
  rw [if_pos ⟨by omega,by omega⟩,if_pos ⟨by omega,by omega⟩,if_pos (show s.length + (0 + 1 + 1)≤lim by unfold lim; omega)]
  rw [wu64 (x:=((l[i]).get (f:Int)).Lo) (by omega) (by omega),wu64 (x:=((l[i]).get (f:Int)).Hi) (by omega) (by omega),wu64 (by omega) (by omega)]
  exact ⟨rfl,by simp; omega⟩) (fun n s hs=>by rw [Zb5]; simp) acc (by omega)
 rw [this.1,foldI_flat]
 rfl
theorem cuts1_eq {f:Nat} (hf:f<5) {a b:List Bx} (hl:a.length + b.length≤400000) (ha:∀ x∈a,BOk x) (hb:∀ x∈b,BOk x) (acc:List Int) (hacc:acc.length≤2):Zb6 (f:Int) [a,b] fuel acc 0=some (acc++rawC f (a++b)):=by
 obtain ⟨m,hm⟩:=fuel_cut 2 (by omega)
 rw [hm]
 have i0:idx [a,b] (0:Int)=some a:=rfl
 have i1:idx [a,b] (0 + 1:Int)=some b:=rfl
 rw [Zb6,if_pos (by simp),i0]
 simp only [Option.bind_some]
 rw [cuts2_eq hf (by omega) ha acc (by omega)]
 simp only [Option.bind_some]
 rw [wi64 (by omega) (by omega),Zb6,if_pos (by simp),i1]
 simp only [Option.bind_some]
 rw [cuts2_eq hf (by omega) hb _ (by rw [List.length_append,rawC_len]; omega)]
 simp only [Option.bind_some]
 rw [wi64 (by omega) (by omega),Zb6,if_neg (by simp)]
 unfold rawC
 rw [List.flatMap_append,List.append_assoc]
theorem cuts_ok {f:Nat} (hf:f<5) {a b:List Bx} (hl:a.length + b.length≤400000) (ha:∀ x∈a,BOk x) (hb:∀ x∈b,BOk x):Ok (Zcv (f:Int) [a,b]) (Pts f (a++b)):=by
 have ht:=topN hf
 unfold Zcv
 rw [BTop_eq hf]
 simp only [Option.bind_some]
 rw [wu64 (x:=topOf (f:Int)) (by omega) (by omega),wu64 (by omega) (by omega),cuts1_eq hf hl ha hb _ (by simp)]
 simp only [Option.bind_some]
 rw [if_pos (by simp)]
 have hlen:([0,topOf (f:Int) + 1]++rawC (f:Int) (a++b)).length=2 + 2 * (a++b).length:=by rw [List.length_append,rawC_len]; rfl
 have hab:(a++b).length=a.length + b.length:=List.length_append
 generalize hr:[0,topOf (f:Int) + 1]++rawC (f:Int) (a++b)=raw at hlen
 rw [Sort_eq (by omega)]
 simp only [Option.bind_some]
 rw [if_pos (List.length_mergeSort _)]
 have hms:(raw.mergeSort (fun x y=>decide (x≤y))).length=raw.length:=List.length_mergeSort _
 obtain ⟨w,v,e,g1,g2,g3⟩:=Compact_eq (l:=raw.mergeSort (fun x y=>decide (x≤y))) (by omega)
 rw [e]
 have hb2:handB (raw.mergeSort (fun x y=>decide (x≤y))) (some (w,v)) Zby=some (w,v):=by
  cases hq:raw.mergeSort (fun x y=>decide (x≤y)) with
  | nil=>rw [hq] at hms; simp at hms; omega
  | cons x l=>
   rw [hq] at g1 g2
   simp only [handB,Option.bind_some]
   rw [if_pos ⟨g1,by omega⟩]
 rw [hb2]
 simp only [Option.bind_some,g3]
 have hmem:∀ x,x∈dd (raw.mergeSort (fun x y=>decide (x≤y))) ↔ x∈raw:=fun x=>by rw [dd_mem,List.mem_mergeSort]
 have hasc:(dd (raw.mergeSort (fun x y=>decide (x≤y)))).Pairwise (·<·):=by
  refine dd_sorted _ ?_
  have:=List.pairwise_mergeSort (le:=fun x y:Int=>decide (x≤y)) (fun a b c h1 h2=>by simp only [decide_eq_true_eq] at *; omega) (fun a b=>by simp only [Bool.or_eq_true,decide_eq_true_eq]; omega) raw
  exact this.imp fun h=>by simpa using h
 have hrng:∀ x∈raw,0≤x∧x≤topOf (f:Int) + 1:=by
  intro x hx
  rw [← hr] at hx
  simp only [List.mem_append,List.mem_cons,List.not_mem_nil,or_false,rawC,List.mem_flatMap] at hx
  rcases hx with (rfl | rfl) | ⟨b',hb',rfl | rfl⟩
  ·omega
  ·omega
  ·have:=(hb'.elim (fun h=>ha b' h) (fun h=>hb b' h)).at_ hf; omega
  ·have:=(hb'.elim (fun h=>ha b' h) (fun h=>hb b' h)).at_ hf; omega
 refine Ok.ret ⟨hasc,asc_head hasc ((hmem 0).2 (by rw [← hr]; simp)) fun x hx=>(hrng x ((hmem x).1 hx)).1,asc_last hasc ((hmem _).2 (by rw [← hr]; simp)) fun x hx=>(hrng x ((hmem x).1 hx)).2,fun x hx=>⟨(hmem _).2 ?_,(hmem _).2 ?_⟩,?_⟩
 ·rw [← hr]; exact List.mem_append_right _ (List.mem_flatMap.2 ⟨x,hx,by simp⟩)
 ·rw [← hr]; exact List.mem_append_right _ (List.mem_flatMap.2 ⟨x,hx,by simp⟩)
 ·have:=dd_len (raw.mergeSort (fun x y=>decide (x≤y)))
  omega
theorem ranges_eq {f:Nat} (hf:f<5) {a b:List Bx} (hl:a.length + b.length≤400000):Zeo a b (f:Int)=some ((a++b).map fun x=>x.get (f:Int)):=by
 unfold Zeo
 have h1:=list_fold (L:=Zcj a (f:Int)) a (fun s _ x=>s++[x.get (f:Int)]) id (fun i s=>s.length≤i) (by omega) (fun n s i hi hs=>by
  rw [Zcj]
  simp only [show ((i:Int)<(a.length:Int)) from by omega,decide_true,if_true,idx_get hi,Option.bind_some,wsucc (by omega:i<1000000000001),List.length_singleton]
  rw [if_pos ⟨by omega,by omega⟩,if_pos (show s.length + 1≤lim by unfold lim; omega)]
  exact ⟨rfl,by simp; omega⟩) (fun n s hs=>by rw [Zcj]; simp) [] (Nat.le_refl _)
 rw [h1.1,foldI_map]
 simp only [id,List.nil_append,Option.bind_some]
 have h2:=list_fold (L:=Zck b (f:Int)) b (fun s _ x=>s++[x.get (f:Int)]) id (fun i s=>s.length≤a.length + i) (by omega) (fun n s i hi hs=>by
  rw [Zck]
  simp only [show ((i:Int)<(b.length:Int)) from by omega,decide_true,if_true,idx_get hi,Option.bind_some,wsucc (by omega:i<1000000000001),List.length_singleton]
  rw [if_pos ⟨by omega,by omega⟩,if_pos (show s.length + 1≤lim by unfold lim; omega)]
  exact ⟨rfl,by simp; omega⟩) (fun n s hs=>by rw [Zck]; simp) (a.map fun x=>x.get (f:Int)) (by simp)
 rw [h2.1,foldI_map,List.map_append]
 rfl
theorem ins1_ok {l:List Int} {v:Int} (hl:l.length≤1000000):∀ (k i n:Nat),l.length - i=k→k<n→i≤l.length→(∀ x∈l.take i,x<v)→∃ j,Zcl l v n (i:Int)=some ((j:Nat):Int)∧j≤l.length∧(∀ x∈l.take j,x<v)∧∀ h:j<l.length,v≤l[j]:=by
 intro k
 induction k with
 | zero=>
  intro i n hk hn hi hx
  cases n with
  | zero=>omega
  | succ n=>
  refine ⟨i,?_,hi,hx,fun h=>by omega⟩
  rw [Zcl]
  have:decide ((i:Int)<(l.length:Int))=false:=by simp; omega
  rw [this]; rfl
 | succ k ih=>
  intro i n hk hn hi hx
  cases n with
  | zero=>omega
  | succ n=>
  have h1:i<l.length:=by omega
  rw [Zcl]
  have:decide ((i:Int)<(l.length:Int))=true:=by simp; omega
  rw [this]
  simp only [Option.bind_some,if_true,idx_get h1]
  by_cases hlt:l[i]<v
  ·rw [if_pos (decide_eq_true hlt),wsucc (by omega)]
   refine ih (i + 1) n (by omega) (by omega) (by omega) fun x hx'=>?_
   rw [List.take_add_one,List.getElem?_eq_getElem h1] at hx'
   rcases List.mem_append.1 hx' with h | h
   ·exact hx x h
   ·simp at h; rw [h]; exact hlt
  ·rw [if_neg (by simpa using hlt)]
   exact ⟨i,rfl,hi,hx,fun _=>by omega⟩
structure InsP (l:List Int) (v top:Int) (r:List Int):Prop where
 asc:r.Pairwise (·<·)
 mem:∀ x,x∈r ↔ x∈l∨(x=v∧v≤top)
 len:r.length≤l.length + 1
theorem Insert_ok {l:List Int} {v top:Int} (hl:l.length≤1000000) (ha:l.Pairwise (·<·)) (h0:0≤top) (h1:top<4294967296):Ok (Zdv l v top) (InsP l v top):=by
 unfold Zdv
 rw [wu64 h0 (by omega)]
 by_cases hv:v > top
 ·rw [if_pos (decide_eq_true hv)]
  exact Ok.ret ⟨ha,fun x=>⟨Or.inl,fun h=>h.elim id fun h=>by omega⟩,by omega⟩
 ·rw [if_neg (by simpa using hv)]
  obtain ⟨j,e,g1,g2,g3⟩:=ins1_ok (v:=v) hl l.length 0 fuel (by omega) (by unfold fuel; omega) (by omega) (fun x h=>(by cases h))
  rw [show ((0:Nat):Int)=0 from rfl] at e
  rw [e]
  simp only [Option.bind_some]
  have tail:∀ x∈l.drop j,v≤x:=by
   intro x hx
   by_cases hj:j<l.length
   ·rw [List.drop_eq_getElem_cons hj] at hx
    have hp:=ha.sublist (List.drop_sublist j l)
    rw [List.drop_eq_getElem_cons hj] at hp
    have:=g3 hj
    rcases List.mem_cons.1 hx with rfl | hx
    ·exact this
    ·have:=(List.pairwise_cons.1 hp).1 x hx; omega
   ·rw [List.drop_eq_nil_of_le (by omega)] at hx; cases hx
  have fin:(¬ ∃ h:j<l.length,l[j]=v)→Ok (if 0≤(0:Int)∧(0:Int)≤(j:Int)∧(j:Int)≤(List.length l:Int) then
    if List.length ([]:(List Int)) + List.length (List.drop (Int.toNat (0:Int)) (List.take (Int.toNat (j:Int)) l))≤lim then
    if List.length (([]:(List Int))++(List.drop (Int.toNat (0:Int)) (List.take (Int.toNat (j:Int)) l))) + List.length [v]≤lim then
    if 0≤(j:Int)∧(j:Int)≤(List.length l:Int)∧(List.length l:Int)≤(List.length l:Int) then
    if List.length ((([]:(List Int))++(List.drop (Int.toNat (0:Int)) (List.take (Int.toNat (j:Int)) l)))++[v]) + List.length (List.drop (Int.toNat (j:Int)) (List.take (Int.toNat (List.length l:Int)) l))≤lim then
    some (((([]:(List Int))++(List.drop (Int.toNat (0:Int)) (List.take (Int.toNat (j:Int)) l)))++[v])++(List.drop (Int.toNat (j:Int)) (List.take (Int.toNat (List.length l:Int)) l)))
    else none
    else none
    else none
    else none
    else none) (InsP l v top):=by
   intro hne
   have e1:List.drop (Int.toNat (0:Int)) (List.take (Int.toNat (j:Int)) l)=l.take j:=rfl
   have e2:List.drop (Int.toNat (j:Int)) (List.take (Int.toNat (List.length l:Int)) l)=l.drop j:=by rw [Int.toNat_natCast,Int.toNat_natCast,List.take_length]
   rw [e1,e2,List.nil_append]
   have l1:(l.take j).length=j:=by rw [List.length_take]; omega
   have l2:(l.drop j).length=l.length - j:=List.length_drop
   refine Ok.chk ⟨by omega,by omega,by omega⟩ (Ok.chk ?_ (Ok.chk ?_ (Ok.chk ⟨by omega,by omega,by omega⟩ (Ok.chk ?_ (Ok.ret ⟨?_,fun x=>?_,?_⟩)))))
   ·rw [l1]; unfold lim; simp; omega
   ·rw [l1]; unfold lim; simp; omega
   ·rw [List.length_append,l1,l2]; unfold lim; simp; omega
   ·have hp1:=ha.sublist (List.take_sublist j l)
    have hp2:=ha.sublist (List.drop_sublist j l)
    have hlt:∀ x∈l.drop j,v<x:=by
     intro x hx
     have:=tail x hx
     rcases Int.lt_or_eq_of_le this with h | h
     ·exact h
     ·exfalso
      subst h
      by_cases hj:j<l.length
      ·have hv:=g3 hj
       rw [List.drop_eq_getElem_cons hj] at hx hp2
       rcases List.mem_cons.1 hx with h | h
       ·exact hne ⟨hj,h.symm⟩
       ·have:=(List.pairwise_cons.1 hp2).1 _ h; omega
      ·rw [List.drop_eq_nil_of_le (by omega)] at hx; cases hx
    rw [List.append_assoc,List.pairwise_append]
    refine ⟨hp1,List.pairwise_cons.2 ⟨hlt,hp2⟩,fun x hx y hy=>?_⟩
    have:=g2 x hx
    rcases List.mem_cons.1 hy with rfl | hy
    ·exact this
    ·have:=hlt y hy; omega
   ·have hm:x∈l ↔ x∈l.take j∨x∈l.drop j:=by rw [← List.mem_append,List.take_append_drop]
    simp only [List.mem_append,List.mem_cons,List.not_mem_nil,or_false,hm]
    constructor
    ·rintro ((h | h) | h)
     ·exact Or.inl (Or.inl h)
     ·exact Or.inr ⟨h,by omega⟩
     ·exact Or.inl (Or.inr h)
    ·rintro ((h | h) | h)
     ·exact Or.inl (Or.inl h)
     ·exact Or.inr h
     ·exact Or.inl (Or.inr h.1)
   ·rw [List.length_append,List.length_append,l1,l2]; simp; omega
  by_cases hj:j<l.length
  ·have:decide ((j:Int)<(l.length:Int))=true:=by simp; omega
   rw [this]
   simp only [if_true,idx_get hj,Option.bind_some]
   by_cases he:l[j]=v
   ·rw [if_pos (by simpa using he)]
    refine Ok.ret ⟨ha,fun x=>⟨Or.inl,fun h=>h.elim id fun h=>?_⟩,by omega⟩
    rw [h.1,← he]; exact List.getElem_mem hj
   ·rw [if_neg (by simpa using he)]
    exact fin fun ⟨_,h⟩=>he h
  ·have:decide ((j:Int)<(l.length:Int))=false:=by simp; omega
   rw [this]
   simp only [Bool.false_eq_true,if_false,Option.bind_some]
   exact fin fun ⟨h,_⟩=>hj h
structure StP (rs:List api_Range) (top:Int) (r:List Int):Prop where
 asc:r.Pairwise (·<·)
 z:0∈r
 rng:∀ x∈r,0≤x∧x≤top
 cut:∀ y∈rs,y.Lo∈r∧(y.Hi + 1≤top→y.Hi + 1∈r)
 len:r.length≤2 * rs.length + 1
theorem Starts_ok {rs:List api_Range} {top:Int} (hl:rs.length≤400000) (h0:0≤top) (h1:top<4294967296) (hr:∀ r∈rs,0≤r.Lo∧r.Lo≤r.Hi∧r.Hi≤top):Ok (Zep rs top) (StP rs top):=by
 unfold Zep
 refine Ok.bind (p:=StP rs top) ?_ fun v hv=>Ok.ret hv
 refine list_ok (L:=Zcm rs top) rs (fun i s=>StP (rs.take i) top s) (by omega) (fun n s i hi hs k=>?_) (fun n s hs=>?_) _ ?_
 ·rw [Zcm]
  have hy:=hr _ (List.getElem_mem hi)
  have ll:(rs.take i).length=i:=by rw [List.length_take]; omega
  have hsl:=hs.len
  simp only [show ((i:Int)<(rs.length:Int)) from by omega,decide_true,if_true,idx_get hi,Option.bind_some,wsucc (by omega:i<1000000000001)]
  rw [if_pos (decide_eq_true hy.2.1),wu64 (x:=(rs[i]).Lo) (by omega) (by omega),wu64 (x:=(rs[i]).Hi) (by omega) (by omega),wu64 (by omega) (by omega)]
  refine Ok.bind (p:=StP (rs.take (i + 1)) top) ?_ fun v hv=>k v hv
  refine Ok.bind (Insert_ok (by omega) hs.asc h0 h1) fun r1 g1=>Ok.bind (Insert_ok (by have:=g1.len; omega) g1.asc h0 h1) fun r2 g2=>Ok.ret ⟨g2.asc,?_,fun x hx=>?_,fun y hy'=>?_,?_⟩
  ·exact (g2.mem 0).2 (Or.inl ((g1.mem 0).2 (Or.inl hs.z)))
  ·rcases (g2.mem x).1 hx with h | h
   ·rcases (g1.mem x).1 h with h | h
    ·exact hs.rng x h
    ·omega
   ·omega
  ·rw [List.take_add_one,List.getElem?_eq_getElem hi] at hy'
   rcases List.mem_append.1 hy' with h | h
   ·have:=hs.cut y h
    exact ⟨(g2.mem _).2 (Or.inl ((g1.mem _).2 (Or.inl this.1))),fun hh=>(g2.mem _).2 (Or.inl ((g1.mem _).2 (Or.inl (this.2 hh))))⟩
   ·have h:y=rs[i]:=by simpa using h
    subst h
    exact ⟨(g2.mem _).2 (Or.inl ((g1.mem _).2 (Or.inr ⟨rfl,by omega⟩))),fun hh=>(g2.mem _).2 (Or.inr ⟨rfl,hh⟩)⟩
  ·have:=g1.len
   have:=g2.len
   have:(rs.take (i + 1)).length=i + 1:=by rw [List.length_take]; omega
   omega
 ·rw [Zcm,if_neg (by simp)]
  rw [List.take_length] at hs
  exact Ok.ret hs
 ·exact ⟨List.pairwise_singleton ..,List.mem_singleton.2 rfl,fun x hx=>by rw [List.mem_singleton] at hx; omega,fun y hy=>(by cases hy),by simp⟩
theorem starts_pts {f:Nat} (hf:f<5) {l:List Bx} (hb:∀ x∈l,BOk x) {ss:List Int} (h:StP (l.map fun x=>x.get (f:Int)) (topOf (f:Int)) ss):Pts f l (ss++[topOf (f:Int) + 1]):=by
 have ht:=topN hf
 refine ⟨List.pairwise_append.2 ⟨h.asc,List.pairwise_singleton ..,fun x hx y hy=>?_⟩,?_,List.getLast?_concat,fun b hb'=>?_,?_⟩
 ·rw [List.mem_singleton] at hy
  have:=h.rng x hx
  omega
 ·obtain ⟨tl,e⟩:=asc_head h.asc h.z fun x hx=>(h.rng x hx).1
  exact ⟨tl++[topOf (f:Int) + 1],by rw [e]; rfl⟩
 ·have hr:=(hb b hb').at_ hf
  have hc:=h.cut (b.get (f:Int)) (List.mem_map.2 ⟨b,hb',rfl⟩)
  refine ⟨List.mem_append_left _ hc.1,?_⟩
  by_cases hh:(b.get (f:Int)).Hi + 1≤topOf (f:Int)
  ·exact List.mem_append_left _ (hc.2 hh)
  ·refine List.mem_append_right _ (List.mem_singleton.2 ?_)
   omega
 ·have:=h.len
  rw [List.length_map] at this
  rw [List.length_append,List.length_singleton]; omega
end Go.AM
set_option maxRecDepth 100000
namespace Go.AM
open Go
abbrev RL:=List api_Range
theorem CF_len:∀ (ts:List Int) {l:List RL},CF ts l→∀ b∈l,b.length=ts.length
 | [],l,h,b,hb=>by
  rcases h with rfl | rfl
  ·cases hb
  ·rw [List.mem_singleton] at hb; rw [hb]; rfl
 | t :: ts,l,⟨c,h1,h2,h3⟩,b,hb=>by
  subst h1
  obtain ⟨x,hx,hb⟩:=List.mem_flatMap.1 hb
  obtain ⟨b',hb',rfl⟩:=List.mem_map.1 hb
  rw [List.length_cons,List.length_cons,CF_len ts (h3 x hx) b' hb']
theorem Ord.len {t:Int}:∀ {c:List Cell},Ord t c→c.length≤(flt c).length
 | [],_=>Nat.le_refl _
 | x :: c,h=>by
  have hx:=(h.ok x (List.mem_cons_self ..)).2.2.2
  have:=Ord.len h.tail
  rw [flt_cons,List.length_append,List.length_map,List.length_cons]
  have:0<x.2.length:=List.length_pos_iff.2 hx
  omega
theorem lk_le (c:List Cell) {t:Int} (h:Ord t c) (v:Int):(lk c v).length≤(flt c).length:=by
 by_cases hv:lk c v=[]
 ·rw [hv]; simp
 ·obtain ⟨x,hx,h1,h2⟩:=lk_some hv
  rw [lk_mem h hx h1 h2]
  obtain ⟨a,b,rfl⟩:=List.append_of_mem hx
  rw [flt_app,flt_cons,List.length_append,List.length_append,List.length_map]
  omega
theorem map_pad_inj {f:Nat} (h:f≤5) {l l':List RL} (hl:∀ b∈l,b.length=5 - f) (hl':∀ b∈l',b.length=5 - f):l.map (pad f)=l'.map (pad f) ↔ l=l':=by
 constructor
 ·intro e
  have:=congrArg (List.map (sf f)) e
  rw [List.map_map,List.map_map] at this
  have h1:∀ {m:List RL},(∀ b∈m,b.length=5 - f)→m.map (sf f ∘ pad f)=m:=fun {m} hm=>by
   conv=>rhs; rw [← List.map_id m]
   exact List.map_congr_left fun b hb=>sf_pad h (hm b hb)
  rw [h1 hl,h1 hl'] at this
  exact this
 ·rintro rfl; rfl
def gr1 (f:Nat) (x:Cell):packetset_group:=⟨x.1,x.2.map (pad (f + 1))⟩
def gr (f:Nat) (c:List Cell):List packetset_group:=c.map (gr1 f)
theorem gr_len (f:Nat) (c:List Cell):(gr f c).length=c.length:=List.length_map _
theorem gr_snoc (f:Nat) (d:List Cell) (y:Cell):gr f (d++[y])=gr f d++[gr1 f y]:=by unfold gr; rw [List.map_append]; rfl
theorem idx_snoc {α:Type} (l:List α) (x:α) (h:l.length≤1000000000):idx (l++[x]) (IntKind.wrap .i64 (((l++[x]).length:Int) - (1:Int)))=some x:=by
 rw [List.length_append,List.length_singleton,wi64 (by omega) (by omega),show ((l.length + 1:Nat):Int) - 1=((l.length:Nat):Int) by omega,idx_get (by simp)]
 simp
theorem set_snoc {α:Type} (l:List α) (x y:α) (h:l.length≤1000000000):(l++[x]).set (Int.toNat (IntKind.wrap .i64 (((l++[x]).length:Int) - (1:Int)))) y=l++[y]:=by
 rw [List.length_append,List.length_singleton,wi64 (by omega) (by omega),show (((l.length + 1:Nat):Int) - 1).toNat=l.length by omega,List.set_append_right _ _ (Nat.le_refl _),Nat.sub_self]
 rfl
def capd (m:Nat) (f:Nat) (l:List RL):List Bx × Bool:=if l.length≤m then (l.map (pad f),true) else ([],false)
theorem join_rest (c:List Cell) (lo hi:Int) (rest:List RL):rest.length≤(flt (joinC c lo hi rest)).length:=by
 unfold joinC
 split
 ·rename_i h; rw [h]; simp
 ·split
  ·split
   ·rw [flt_app,List.length_append,flt_one]; omega
   ·rw [flt_app,List.length_append,flt_one]; omega
  ·rw [flt_app,List.length_append,flt_one]; omega
theorem either_L1_eq {f:Nat} (hf:f<5) {a b:List Bx} (ha:a.length≤2000000000) (hb:b.length≤2000000000) {m:Nat} (hm:m≤100000)
  {z0:Int→List Bx→List Bx→Int→Option (List Bx × Bool)} {ps:List Int} (hps:ps.length≤1000000) {g:Int→List RL} (hg:∀ v,∀ b∈g v,b.length=5 - (f + 1))
  (hz:∀ v,0≤v→v≤topOf (f:Int)→z0 ((f + 1:Nat):Int) (cov a f v) (cov b f v) (m:Int)=some (capd m (f + 1) (g v))) :
  ∀ (rem:List Int) (p:Int) (i n:Nat) (c:List Cell),ps.drop i=p :: rem→rem.length<n→Upto g p c→Steps g (p :: rem)→0≤p→(∀ x∈p :: rem,x≤topOf (f:Int) + 1)→(flt c).length≤m →
  Zo (f:Int) a b (m:Int) z0 ps n (gr f c) ((flt c).length:Int) (i:Int) =
   some (if (flt (runC g c (p :: rem))).length≤m then .inl (gr f (runC g c (p :: rem)),((flt (runC g c (p :: rem))).length:Int)) else .inr ([],false)):=by
 intro rem
 induction rem with
 | nil=>
  intro p i n c hd hn hu hs hp ht hc
  cases n with
  | zero=>simp at hn
  | succ n=>
  have hi:ps.length=i + 1:=by
   have h1:=congrArg List.length hd
   rw [List.length_drop] at h1
   simp at h1; omega
  rw [Zo,wsucc (by omega),if_neg (by simp; omega)]
  unfold runC
  rw [if_pos hc]
 | cons q rem ih=>
  intro p i n c hd hn hu hs hp ht hc
  cases n with
  | zero=>simp at hn
  | succ n=>
  obtain ⟨hpq,hgc,hs'⟩:=hs
  have htop:=topN hf
  have hqt:=ht q (by simp)
  have hpt:p≤topOf (f:Int):=by omega
  have hlen:i + 2≤ps.length:=by
   have h1:=congrArg List.length hd
   rw [List.length_drop] at h1
   simp at h1; omega
  have gi:∀ j,(ps.drop i)[j]? = ps[i + j]?:=fun j=>List.getElem?_drop
  have h0:idx ps (i:Int)=some p:=by
   have h1:=gi 0
   rw [hd,Nat.add_zero] at h1
   simp only [List.getElem?_cons_zero] at h1
   rw [idx_get (by omega),← List.getElem?_eq_getElem,← h1]
  have h1:idx ps ((i + 1:Nat):Int)=some q:=by
   have h1:=gi 1
   rw [hd] at h1
   simp only [List.getElem?_cons_succ,List.getElem?_cons_zero] at h1
   rw [idx_get (by omega),← List.getElem?_eq_getElem,← h1]
  have hd':ps.drop (i + 1)=q :: rem:=by rw [← List.drop_drop,hd]; rfl
  have e1:IntKind.wrap .u32 p=p:=wu32 hp (by omega)
  have e2:IntKind.wrap .u32 (IntKind.wrap .u64 (q - (1:Int)))=q - 1:=by rw [wu64 (by omega) (by omega),wu32 (by omega) (by omega)]
  have hu':=hu.step hp hpq hgc
  have key:=ih q (i + 1) n (joinC c p (q - 1) (g p)) hd' (by simp at hn; omega) hu' hs' (by omega) (fun x hx=>ht x (List.mem_cons_of_mem _ hx))
  have hrun:runC g c (p :: q :: rem)=runC g (joinC c p (q - 1) (g p)) (q :: rem):=rfl
  have hfin:=runC_size g (q :: rem) (joinC c p (q - 1) (g p))
  have hjr:=join_rest c p (q - 1) (g p)
  have hcl:=hu.ord.len
  rw [hrun]
  rw [Zo,wsucc (by omega),if_pos (by simp; omega),h0,h1]
  simp only [Option.bind_some,e1,e2]
  rw [covering_eq ha (by omega) (by omega),covering_eq hb (by omega) (by omega)]
  simp only [Option.bind_some]
  rw [wsucc (i:=f) (by omega),hz p hp hpt]
  simp only [Option.bind_some,capd]
  by_cases hgm:(g p).length≤m
  ·rw [if_pos hgm]
   simp only [Bool.not_true,Bool.false_eq_true,if_false,List.length_map]
   by_cases hg0:g p=[]
   ·have ej:joinC c p (q - 1) (g p)=c:=by unfold joinC; rw [if_pos hg0]
    rw [ej] at key ⊢
    rw [hg0]
    simp only [List.length_nil,Int.natCast_zero,beq_self_eq_true,if_true,Option.bind_some]
    exact key hc
   ·have hgl:0<(g p).length:=List.length_pos_iff.2 hg0
    rw [if_neg (show ¬ (((g p).length:Int) == (0:Int))=true by simp [hg0])]
    rcases List.eq_nil_or_concat c with rfl | ⟨d,y,rfl⟩
    ·
     have ej:joinC [] p (q - 1) (g p)=[(⟨p,q - 1⟩,g p)]:=by unfold joinC; rw [if_neg hg0]; rfl
     rw [ej] at key hfin ⊢
     rw [flt_one] at key hfin
     have e3:IntKind.wrap .i64 (((flt []).length:Int) + ((g p).length:Int))=((g p).length:Int):=by
      rw [show (flt []).length=0 from rfl,wi64 (by omega) (by omega)]; omega
     simp only [show gr f []=[] from rfl,List.length_nil,Int.natCast_zero,gt_iff_lt,Int.lt_irrefl,decide_false,Bool.false_eq_true,if_false,Option.bind_some,List.length_singleton,Nat.zero_add]
     rw [if_pos (show 1≤lim by unfold lim; omega)]
     simp only [show (flt []).length=0 from rfl,Int.natCast_zero] at e3 ⊢
     rw [e3,if_neg (show ¬ decide ((m:Int)<((g p).length:Int))=true by simp; omega)]
     simp only [Option.bind_some,List.nil_append]
     exact key hgm
    ·rw [List.concat_eq_append] at *
     have hgrl:(gr f d).length≤1000000000:=by rw [gr_len]; rw [List.length_append] at hcl; omega
     have hyo:=hu.ord.ok y (List.mem_append_right _ (List.mem_singleton.2 rfl))
     have hyg:∀ b∈y.2,b.length=5 - (f + 1):=by
      have h2:=hu.at_ y.1.Lo
      rw [lk_mem hu.ord (List.mem_append_right _ (List.mem_singleton.2 rfl)) (Int.le_refl _) hyo.2.1,if_pos (by omega)] at h2
      rw [h2]; exact hg _
     have hx2:idx (gr f (d++[y])) (IntKind.wrap .i64 (((gr f (d++[y])).length:Int) - (1:Int)))=some (gr1 f y):=by rw [gr_snoc]; exact idx_snoc _ _ hgrl
     have hpos:decide (((gr f (d++[y])).length:Int) > 0)=true:=by rw [gr_len]; simp
     have e4:IntKind.wrap .u32 (y.1.Hi + (1:Int))=y.1.Hi + 1:=wu32 (by omega) (by omega)
     rw [hpos]
     simp only [Option.bind_some,if_true,hx2]
     rw [show (gr1 f y).f_values.Hi=y.1.Hi from rfl,e4,show (gr1 f y).f_rest=y.2.map (pad (f + 1)) from rfl]
     rw [Equal_eq (by rw [List.length_map]; rw [flt_app,List.length_append] at hc; obtain ⟨yr,yrest⟩:=y; rw [flt_one] at hc; simp only at hc ⊢; omega)]
     have hmi:((y.2.map (pad (f + 1))=(g p).map (pad (f + 1))) ↔ y.2=g p):=map_pad_inj (by omega) hyg (hg p)
     simp only [hmi,Option.bind_some]
     have ej:joinC (d++[y]) p (q - 1) (g p)=if y.1.Hi + 1=p∧y.2=g p then d++[(⟨y.1.Lo,q - 1⟩,g p)] else (d++[y])++[(⟨p,q - 1⟩,g p)]:=by
      unfold joinC
      rw [if_neg hg0,List.getLast?_concat]
      simp only [List.dropLast_concat]
     by_cases hj:y.1.Hi + 1=p∧y.2=g p
     ·rw [if_pos hj] at ej
      rw [ej] at key hfin ⊢
      have hb1:(y.1.Hi + 1 == p)=true:=by simpa using hj.1
      rw [hb1]
      simp only [if_true,decide_eq_true hj.2,Option.bind_some]
      have e5:(flt (d++[(⟨y.1.Lo,q - 1⟩,g p)])).length=(flt (d++[y])).length:=by
       rw [flt_app,flt_app,List.length_append,List.length_append,flt_one]
       obtain ⟨yr,yrest⟩:=y
       rw [flt_one]
       rw [← hj.2]
      rw [e5] at key hfin
      have e6:(gr f (d++[y])).set (Int.toNat (IntKind.wrap .i64 (((gr f (d++[y])).length:Int) - (1:Int)))) ({ gr1 f y with f_values:=({ (gr1 f y).f_values with Hi:=q - 1 }:api_Range) }:packetset_group)=gr f (d++[(⟨y.1.Lo,q - 1⟩,g p)]):=by
       rw [gr_snoc,set_snoc _ _ _ hgrl,gr_snoc]
       rw [show (gr1 f (⟨y.1.Lo,q - 1⟩,g p))=({ gr1 f y with f_values:=({ (gr1 f y).f_values with Hi:=q - 1 }:api_Range) }:packetset_group) by unfold gr1; rw [hj.2]]
      have e7:({ f_values:={ Lo:=(gr1 f y).f_values.Lo,Hi:=q - 1 },f_rest:=y.2.map (pad (f + 1)) }:packetset_group)=({ gr1 f y with f_values:=({ (gr1 f y).f_values with Hi:=q - 1 }:api_Range) }:packetset_group):=rfl
      first | rw [e6] | (rw [e7,e6])
      exact key hc
     ·rw [if_neg hj] at ej
      rw [ej] at key hfin ⊢
      have e8:(flt (d++[y]++[(⟨p,q - 1⟩,g p)])).length=(flt (d++[y])).length + (g p).length:=by
       rw [flt_app,List.length_append,flt_one]
      rw [e8] at key hfin
      have e3:IntKind.wrap .i64 (((flt (d++[y])).length:Int) + ((g p).length:Int))=(((flt (d++[y])).length + (g p).length:Nat):Int):=by
       rw [wi64 (by omega) (by omega)]; omega
      have hcond:(if (y.1.Hi + 1 == p)=true then some (decide (y.2=g p)) else some false)=some false:=by
       by_cases h3:y.1.Hi + 1=p
       ·rw [if_pos (by simpa using h3),decide_eq_false fun h4=>hj ⟨h3,h4⟩]
       ·rw [if_neg (by simpa using h3)]
      rw [hcond]
      simp only [Option.bind_some,Bool.false_eq_true,if_false]
      rw [if_pos (show (gr f (d++[y])).length + [(packetset_group.mk (api_Range.mk p (q - 1)) ((g p).map (pad (f + 1))))].length≤lim by rw [gr_len,List.length_singleton]; unfold lim; omega),e3]
      by_cases hsz:(flt (d++[y])).length + (g p).length≤m
      ·rw [if_neg (by simp; omega)]
       simp only [Option.bind_some]
       have:=key hsz
       rw [gr_snoc] at this
       exact this
      ·rw [if_pos (by simp; omega),if_neg (by omega)]
       rfl
  ·rw [if_neg hgm]
   simp only [Bool.not_false,if_true,Option.bind_some]
   rw [if_neg (by omega)]
end Go.AM
set_option maxRecDepth 100000
namespace Go.AM
open Go
theorem either_L3_eq {f:Nat} (hf:f<5) (x:Cell) (hx:∀ b∈x.2,b.length=4 - f) (acc:List Bx) (hl:acc.length + x.2.length≤2000000000) :
  Zp (f:Int) (gr1 f x) fuel acc 0=some (acc++(x.2.map (x.1 :: ·)).map (pad f)):=by
 have hlen:(x.2.map (pad (f + 1))).length=x.2.length:=List.length_map _
 have:=list_fold (L:=Zp (f:Int) (gr1 f x)) (x.2.map (pad (f + 1))) (fun s _ y=>s++[Arr5.set y (f:Int) x.1]) id (fun i s=>s.length≤acc.length + i) (by omega) (fun n s i hi hs=>by
  rw [Zp]
  simp only [show (gr1 f x).f_rest=x.2.map (pad (f + 1)) from rfl,show (gr1 f x).f_values=x.1 from rfl,show ((i:Int)<((x.2.map (pad (f + 1))).length:Int)) from by omega,decide_true,if_true,idx_get hi,Option.bind_some,wsucc (by omega:i<1000000000001),List.length_singleton]
  rw [if_pos ⟨by omega,by omega⟩,if_pos (show s.length + 1≤lim by unfold lim; omega)]
  exact ⟨rfl,by simp; omega⟩) (fun n s hs=>by rw [Zp]; simp [show (gr1 f x).f_rest=x.2.map (pad (f + 1)) from rfl]) acc (by omega)
 rw [this.1,foldI_map,List.map_map,List.map_map]
 simp only [id]
 congr 2
 exact List.map_congr_left fun b hb=>set_pad hf (hx b hb) x.1
theorem either_L2_eq {f:Nat} (hf:f<5) (c:List Cell) (hc:∀ x∈c,∀ b∈x.2,b.length=4 - f) (hl:(flt c).length≤2000000000) (hcl:c.length≤2000000000) :
  Zm (f:Int) (gr f c) fuel [] 0=some ((flt c).map (pad f)):=by
 have e:∀ (d:List Cell) (acc:List Bx) (i:Nat),foldI (fun (s:List Bx) _ (y:Cell)=>s++(y.2.map (y.1 :: ·)).map (pad f)) acc i d=acc++(flt d).map (pad f):=by
  intro d
  induction d with
  | nil=>intro acc i; simp [foldI,flt]
  | cons x d ih=>intro acc i; simp only [foldI]; rw [ih,flt_cons,List.map_append,List.append_assoc]
 have:=list_fold (L:=Zm (f:Int) (gr f c)) c (fun s _ y=>s++(y.2.map (y.1 :: ·)).map (pad f)) id (fun i s=>s.length=(flt (c.take i)).length) (by omega) (fun n s i hi hs=>by
  have hi':i<(gr f c).length:=by rw [gr_len]; exact hi
  have hx:idx (gr f c) (i:Int)=some (gr1 f c[i]):=by rw [idx_get hi']; exact congrArg some (List.getElem_map ..)
  have tk:flt (c.take (i + 1))=flt (c.take i)++(c[i].2.map (c[i].1 :: ·)):=by
   rw [List.take_add_one,List.getElem?_eq_getElem hi,flt_app]; simp [flt]
  have hle:(flt (c.take (i + 1))).length≤(flt c).length:=by
   conv=>rhs; rw [← List.take_append_drop (i + 1) c,flt_app,List.length_append]
   omega
  have hle2:(flt (c.take (i + 1))).length=(flt (c.take i)).length + (c[i]).2.length:=by rw [tk,List.length_append,List.length_map]
  rw [Zm]
  rw [if_pos (by rw [gr_len]; simp; omega),hx]
  simp only [Option.bind_some]
  rw [either_L3_eq hf _ (hc _ (List.getElem_mem hi)) s (by omega)]
  simp only [Option.bind_some]
  rw [wsucc (by omega)]
  refine ⟨rfl,?_⟩
  rw [List.length_append,List.length_map,List.length_map,hle2,hs]) (fun n s hs=>by rw [Zm]; simp [gr_len]) [] rfl
 rw [this.1,e]
 rfl
structure Canon (op:Bool→Bool→Bool) (C:Nat→Int→List Bx→List Bx→Int→Option (List Bx × Bool)):Prop where
 ff:op false false=false
 base:∀ nr a b m,C (nr + 1) 5 a b m=some (if op (decide ((a.length:Int) > 0)) (decide ((b.length:Int) > 0))=true then ([⟨zr,zr,zr,zr,zr⟩],true) else ([],true))
 step:∀ nr (f:Int) a b m,f ≠ 5→C (nr + 1) f a b m=if (IntKind.wrap .i64 ((a.length:Int) + (b.length:Int)) == (0:Int))=true then some ([],true) else
  (Zcv f [a,b]).bind fun r12=>(Zo f a b m (C nr) r12 fuel [] 0 0).bind fun o=>match o with
   | .inl (v175,v176)=>if 0≤v176∧v176≤(lim:Int) then (Zm f v175 fuel [] 0).bind fun v=>some (v,true) else none
   | .inr r=>some r
theorem mS5 (a:List Bx):mS (a.map (sf 5)) []=decide ((a.length:Int) > 0):=by
 cases a with
 | nil=>rfl
 | cons b a=>
  have:decide (((b :: a).length:Int) > 0)=true:=by simp
  rw [this]
  show (mB (sf 5 b) [] || mS (a.map (sf 5)) [])=true
  rfl
theorem BOk.all {a:List Bx} (h:∀ x∈a,BOk x) (f v:Int):∀ x∈cov a f v,BOk x:=fun x hx=>h x (cov_mem hx)
theorem level {op:Bool→Bool→Bool} {f:Nat} (hf:f<5) {a b:List Bx} {c:List Cell} {ps:List Int} (hps:Pts f (a++b) ps) (hL:Is op (topOf (f:Int) :: tops5.drop (f + 1)) (a.map (sf f)) (b.map (sf f)) (flt c)) (ho:Ord (topOf (f:Int)) c) (hc:∀ x∈c,CF (tops5.drop (f + 1)) x.2) :
  (∃ tl,ps=0 :: tl∧Steps (lk c) (0 :: tl)∧runC (lk c) [] (0 :: tl)=c)∧(∀ v,∀ b∈lk c v,b.length=4 - f) ∧
  ∀ v,0≤v→v≤topOf (f:Int)→Is op (tops5.drop (f + 1)) ((cov a f v).map (sf (f + 1))) ((cov b f v).map (sf (f + 1))) (lk c v):=by
 have hat:∀ v,0≤v→v≤topOf (f:Int)→Is op (tops5.drop (f + 1)) (atv (a.map (sf f)) v) (atv (b.map (sf f)) v) (lk c v):=fun v h0 h1=>Is.at_ ho hc hL h0 h1
 obtain ⟨tl,rfl⟩:=hps.h0
 have hrng:∀ x∈(0:Int) :: tl,x≤topOf (f:Int) + 1:=by
  obtain ⟨ys,hy⟩:=List.getLast?_eq_some_iff.1 hps.hl
  intro x hx
  have hp:=hps.asc
  rw [hy] at hx hp
  rcases List.mem_append.1 hx with h | h
  ·have:=(List.pairwise_append.1 hp).2.2 x h _ (List.mem_singleton.2 rfl); omega
  ·rw [List.mem_singleton] at h; omega
 have hcut:∀ l:List Bx,(∀ x∈l,x∈a++b)→Cut ((0:Int) :: tl) (l.map (sf f)):=by
  intro l hl x hx r b' e
  obtain ⟨z,hz,rfl⟩:=List.mem_map.1 hx
  rw [sf_succ hf,List.cons.injEq] at e
  rw [← e.1]
  exact hps.cut z (hl z hz)
 have hsteps:Steps (lk c) (0 :: tl):=by
  refine steps_of (List.cons_ne_nil _ _) hps.asc fun i h v h1 h2=>?_
  have hx:=pairs_between hps.asc h
  have hm:=List.pairwise_iff_getElem.1 hps.asc
  have h0i:0≤((0:Int) :: tl)[i]:=by
   rcases Nat.eq_zero_or_pos i with rfl | hi
   ·exact Int.le_refl _
   ·exact Int.le_of_lt (hm 0 i (by simp) (by omega) hi)
  have hti:=hrng _ (List.getElem_mem h)
  have key:∀ {l:List RL},Cut ((0:Int) :: tl) l→atv l v=atv l ((0:Int) :: tl)[i]:=fun hl=>
   atv_step (fun b hb r b' e=>⟨hx _ (hl b hb r b' e).1,hx _ (hl b hb r b' e).2⟩) h1 h2
  have g1:=hat v (by omega) (by omega)
  rw [key (hcut a fun x hx=>List.mem_append_left _ hx),key (hcut b fun x hx=>List.mem_append_right _ hx)] at g1
  exact g1.inj (hat _ h0i (by omega))
 refine ⟨⟨tl,rfl,hsteps,runC_eq hsteps hps.hl ho fun v _ _=>rfl⟩,fun v b' hb'=>?_,fun v h0 h1=>by rw [cov_atv hf,cov_atv hf]; exact hat v h0 h1⟩
 have:=CF_len _ (CF_lk ho hc v) b' hb'
 rw [this,List.length_drop]
 show 5 - (f + 1)=4 - f
 omega
theorem canon_eq {op:Bool→Bool→Bool} {C:Nat→Int→List Bx→List Bx→Int→Option (List Bx × Bool)} (hC:Canon op C) {m:Nat} (hm1:1≤m) (hm:m≤100000):∀ (k f nr:Nat) (a b:List Bx) (l:List RL),f + k=5→k<nr→a.length + b.length≤400000→(∀ x∈a,BOk x)→(∀ x∈b,BOk x) →
  Is op (tops5.drop f) (a.map (sf f)) (b.map (sf f)) l→C nr (f:Int) a b (m:Int)=some (capd m f l):=by
 intro k
 induction k with
 | zero=>
  intro f nr a b l hf hn hl ha hb hL
  have hf:f=5:=by omega
  subst hf
  cases nr with
  | zero=>omega
  | succ nr=>
  have h1:=hL.mem [] trivial
  rw [mS5,mS5] at h1
  rw [show ((5:Nat):Int)=5 from rfl,hC.base,← h1]
  rcases hL.cf with rfl | rfl
  ·rfl
  ·rw [if_pos (show mS [[]] []=true from rfl)]
   unfold capd
   rw [if_pos (show ([[]]:List RL).length≤m from hm1)]
   rfl
 | succ k ih=>
  intro f nr a b l hf hn hl ha hb hL
  have hf5:f<5:=by omega
  cases nr with
  | zero=>omega
  | succ nr=>
  rw [tops_succ hf5] at hL
  rw [hC.step nr (f:Int) a b _ (by omega)]
  rw [wi64 (by omega) (by omega)]
  by_cases h0:a.length + b.length=0
  ·rw [if_pos (by simp; omega)]
   have ha0:a=[]:=List.length_eq_zero_iff.1 (by omega)
   have hb0:b=[]:=List.length_eq_zero_iff.1 (by omega)
   subst ha0 hb0
   have:l=[]:=hL.inj ⟨CF_nil _,fun p hp=>by simp [mS,hC.ff]⟩
   rw [this]
   rfl
  ·rw [if_neg (by simp; omega)]
   obtain ⟨ps,hp1,hp2⟩:=cuts_ok hf5 hl ha hb
   rw [hp1]
   simp only [Option.bind_some]
   obtain ⟨c,rfl,ho,hc⟩:=hL.cf
   obtain ⟨⟨tl,rfl,hs,hr⟩,hg,hz⟩:=level hf5 hp2 hL ho hc
   have hlen:=hp2.len
   rw [List.length_append] at hlen
   have hrng:∀ x∈(0:Int) :: tl,x≤topOf (f:Int) + 1:=by
    obtain ⟨ys,hy⟩:=List.getLast?_eq_some_iff.1 hp2.hl
    intro x hx
    have hp:=hp2.asc
    rw [hy] at hx hp
    rcases List.mem_append.1 hx with h | h
    ·have:=(List.pairwise_append.1 hp).2.2 x h _ (List.mem_singleton.2 rfl); omega
    ·rw [List.mem_singleton] at h; omega
   have hmain:=either_L1_eq hf5 (a:=a) (b:=b) (by omega) (by omega) (m:=m) hm (z0:=C nr) (ps:=0 :: tl) (by omega) (g:=lk c) (fun v b' hb'=>by rw [hg v b' hb']; omega) (fun v h0 h1=>by
    refine ih (f + 1) nr _ _ _ (by omega) (by omega) ?_ (BOk.all ha _ _) (BOk.all hb _ _) (hz v h0 h1)
    have:=cov_len a (f:Int) v
    have:=cov_len b (f:Int) v
    omega) tl 0 0 fuel [] rfl (by unfold fuel; simp only [List.length_cons] at hlen; omega) (Upto.nil _) hs (Int.le_refl _) hrng (Nat.zero_le _)
   rw [show gr f []=[] from rfl,show (flt []).length=0 from rfl,show ((0:Nat):Int)=0 from rfl,hr] at hmain
   rw [hmain]
   simp only [Option.bind_some]
   unfold capd
   have hcl:=ho.len
   by_cases hm2:(flt c).length≤m
   ·rw [if_pos hm2,if_pos hm2]
    simp only
    rw [if_pos ⟨by omega,by unfold lim; omega⟩,either_L2_eq hf5 c (fun x hx b' hb'=>by
     have h2:=ho.ok x hx
     have:=hg x.1.Lo b' (by rw [lk_mem ho hx (Int.le_refl _) h2.2.1]; exact hb')
     exact this) (by omega) (by omega)]
    rfl
   ·rw [if_neg hm2,if_neg hm2]
theorem canon_either:Canon (fun x y=>x || y) Z1:=by
 refine ⟨rfl,fun nr a b m=>?_,fun nr f a b m hf=>?_⟩
 ·rw [Z1,if_pos (by decide)]
  unfold Zdc
  simp only [Option.bind_some]
  split <;> rfl
 ·rw [Z1,if_neg (by simpa using hf)]
  unfold Zdc
  simp only [Option.bind_some,Bool.or_self,Bool.not_false]
  cases (IntKind.wrap .i64 ((a.length:Int) + (b.length:Int)) == (0:Int)) <;> rfl
theorem both_L1:@Za6=@Zo:=by
 funext a0 a1 a2 a3 z0 r12 n
 induction n with
 | zero=>rfl
 | succ n ih=>funext v94 v95 v96; rw [Za6,Zo,ih]
theorem both_L3:@Za7=@Zp:=by
 funext a0 x n
 induction n with
 | zero=>rfl
 | succ n ih=>funext v w; rw [Za7,Zp,ih]
theorem both_L2:@Za8=@Zm:=by
 funext a0 x n
 induction n with
 | zero=>rfl
 | succ n ih=>funext v w; rw [Za8,Zm,ih,both_L3]
theorem canon_both:Canon (fun x y=>x && y) Z5:=by
 refine ⟨rfl,fun nr a b m=>?_,fun nr f a b m hf=>?_⟩
 ·rw [Z5,if_pos (by decide)]
  unfold Zdx
  simp only [Option.bind_some]
  split <;> rfl
 ·rw [Z5,if_neg (by simpa using hf),both_L1,both_L2]
  unfold Zdx
  simp only [Option.bind_some,Bool.and_self,Bool.not_false]
  cases (IntKind.wrap .i64 ((a.length:Int) + (b.length:Int)) == (0:Int)) <;> rfl
theorem without_L1:@Zaz=@Zo:=by
 funext a0 a1 a2 a3 z0 r12 n
 induction n with
 | zero=>rfl
 | succ n ih=>funext v94 v95 v96; rw [Zaz,Zo,ih]
theorem without_L3:@Za0=@Zp:=by
 funext a0 x n
 induction n with
 | zero=>rfl
 | succ n ih=>funext v w; rw [Za0,Zp,ih]
theorem without_L2:@Za1=@Zm:=by
 funext a0 x n
 induction n with
 | zero=>rfl
 | succ n ih=>funext v w; rw [Za1,Zm,ih,without_L3]
theorem canon_without:Canon (fun x y=>x && !y) Z0:=by
 refine ⟨rfl,fun nr a b m=>?_,fun nr f a b m hf=>?_⟩
 ·rw [Z0,if_pos (by decide)]
  unfold Zc5
  simp only [Option.bind_some]
  split <;> rfl
 ·rw [Z0,if_neg (by simpa using hf),without_L1,without_L2]
  unfold Zc5
  simp only [Option.bind_some,Bool.not_false,Bool.false_and]
  cases (IntKind.wrap .i64 ((a.length:Int) + (b.length:Int)) == (0:Int)) <;> rfl
end Go.AM
set_option maxRecDepth 100000
namespace Go.AM
open Go
def opc (k:Int) (x y:Bool):Bool:=if k=0 then x || y else if k=1 then x && y else if k=2 then x && !y else !(x == y)
theorem holds_eq (k:Int) (x y:Bool):Ze0 k x y=some (opc k x y):=by
 unfold Ze0 opc
 simp only [Option.bind_some,beq_iff_eq]
 split
 ·rfl
 ·split
  ·rfl
  ·split <;> rfl
theorem none_ok (k:Int) (x y:Bool):∃ r,Zfg k x y=some r∧(r=true→∀ u w,(x=false→u=false)→(y=false→w=false)→opc k u w=false):=by
 unfold Zfg opc
 simp only [Option.bind_some,beq_iff_eq]
 by_cases h1:k=1
 ·subst h1
  refine ⟨_,if_pos rfl,fun h u w hu hw=>?_⟩
  simp only [show ¬ (1:Int)=0 by decide,if_false,if_true]
  cases x
  ·rw [hu rfl]; rfl
  ·cases y
   ·rw [hw rfl]; simp
   ·cases h
 ·rw [if_neg h1]
  by_cases h2:k=2
  ·subst h2
   refine ⟨_,if_pos rfl,fun h u w hu _=>?_⟩
   simp only [show ¬ (2:Int)=0 by decide,show ¬ (2:Int)=1 by decide,if_false,if_true]
   cases x
   ·rw [hu rfl]; rfl
   ·cases h
  ·rw [if_neg h2]
   refine ⟨_,rfl,fun h u w hu hw=>?_⟩
   rw [if_neg h1,if_neg h2]
   cases x <;> cases y <;> simp at h
   rw [hu rfl,hw rfl]
   split <;> rfl
theorem rests_L2_eq {f:Nat} (hf:f<5) {e:Int} (h0:0≤e) (h1:e<4294967296):∀ (k j n:Nat) (v:List Bx),v.length - j=k→k<n→j≤v.length→v.length≤2000000000 →
  Zct (f:Int) e n v (j:Int)=some (v.take j++(v.drop j).map fun x=>x.set (f:Int) ({ (x.get (f:Int)) with Hi:=e }:api_Range)):=by
 intro k
 induction k with
 | zero=>
  intro j n v hk hn hj hl
  cases n with
  | zero=>omega
  | succ n=>
  rw [Zct,if_neg (by simp; omega),List.take_of_length_le (by omega),List.drop_eq_nil_of_le (by omega)]
  simp
 | succ k ih=>
  intro j n v hk hn hj hl
  cases n with
  | zero=>omega
  | succ n=>
  have hjl:j<v.length:=by omega
  rw [Zct,if_pos (by simp; omega),idx_get hjl]
  simp only [Option.bind_some,Int.toNat_natCast]
  rw [if_pos ⟨by omega,by omega⟩,wu32 h0 h1,wsucc (by omega),ih (j + 1) n _ (by rw [List.length_set]; omega) (by omega) (by rw [List.length_set]; omega) (by rw [List.length_set]; exact hl)]
  rw [List.drop_set_of_lt (by omega),List.take_add_one,List.getElem?_eq_getElem (by rw [List.length_set]; exact hjl),List.getElem_set_self,List.take_set_of_le (Nat.le_refl _),List.drop_eq_getElem_cons hjl,List.map_cons,List.append_assoc]
  rfl
theorem rests_L3_eq {f:Nat} (hf:f<5) {r10:List Int} {i:Nat} {p e:Int} (hp:idx r10 (i:Int)=some p) (hp0:0≤p) (hp1:p<4294967296) (h0:0≤e) (h1:e<4294967296) (rest:List RL) (hr:∀ b∈rest,b.length=4 - f) (acc:List Bx) (hl:acc.length + rest.length≤2000000000) :
  Zb9 (f:Int) r10 (i:Int) e (rest.map (pad (f + 1))) fuel acc 0=some (acc++(rest.map ((⟨p,e⟩:api_Range) :: ·)).map (pad f)):=by
 have hlen:(rest.map (pad (f + 1))).length=rest.length:=List.length_map _
 have:=list_fold (L:=Zb9 (f:Int) r10 (i:Int) e (rest.map (pad (f + 1)))) (rest.map (pad (f + 1))) (fun s _ y=>s++[Arr5.set y (f:Int) ⟨p,e⟩]) id (fun i s=>s.length≤acc.length + i) (by omega) (fun n s j hj hs=>by
  rw [Zb9]
  simp only [show ((j:Int)<((rest.map (pad (f + 1))).length:Int)) from by omega,decide_true,if_true,idx_get hj,hp,Option.bind_some,wsucc (by omega:j<1000000000001),List.length_singleton,wu32 hp0 hp1,wu32 h0 h1]
  rw [if_pos ⟨by omega,by omega⟩,if_pos (show s.length + 1≤lim by unfold lim; omega)]
  exact ⟨rfl,by simp; omega⟩) (fun n s hs=>by rw [Zb9]; simp) acc (by omega)
 rw [this.1,foldI_map,List.map_map,List.map_map]
 simp only [id]
 congr 2
 exact List.map_congr_left fun b hb=>set_pad hf (hr b hb) _
theorem join_prev {g:Int→List RL} {p q:Int} {c:List Cell} (hu:Upto g p c) (hg0:g p ≠ []):joinC c p q (g p) =
  if 0<p∧g (p - 1)=g p then match c.getLast? with
   | some y=>c.dropLast++[(⟨y.1.Lo,q⟩,g p)]
   | none=>c++[(⟨p,q⟩,g p)]
  else c++[(⟨p,q⟩,g p)]:=by
 unfold joinC
 rw [if_neg hg0]
 cases hl:c.getLast? with
 | none=>simp
 | some y=>
  obtain ⟨d,rfl⟩:=List.getLast?_eq_some_iff.1 hl
  have hy:=hu.ord.ok y (List.mem_append_right _ (List.mem_singleton.2 rfl))
  simp only
  by_cases hj:y.1.Hi + 1=p∧y.2=g p
  ·rw [if_pos hj]
   have h1:=hu.at_ y.1.Hi
   rw [lk_mem hu.ord (List.mem_append_right _ (List.mem_singleton.2 rfl)) hy.2.1 (Int.le_refl _),if_pos (by omega)] at h1
   rw [if_pos ⟨by omega,by rw [show p - 1=y.1.Hi by omega,← h1,hj.2]⟩]
  ·rw [if_neg hj,if_neg]
   rintro ⟨h1,h2⟩
   have h3:=hu.at_ (p - 1)
   rw [if_pos (by omega),h2] at h3
   obtain ⟨x,hx,h4,h5⟩:=lk_some (c:=d++[y]) (v:=p - 1) (by rw [h3]; exact hg0)
   have hxo:=hu.ord.ok x hx
   rw [lk_mem hu.ord hx h4 h5] at h3
   rcases List.mem_append.1 hx with hxd | hxd
   ·have:=((List.pairwise_append.1 hu.ord.pw).2.2 x hxd y (List.mem_singleton.2 rfl)).1
    omega
   ·rw [List.mem_singleton] at hxd
    subst hxd
    exact hj ⟨by omega,h3⟩
theorem set_set {f:Nat} (b:Bx) (r s:api_Range):(b.set (f:Int) r).set (f:Int) s=b.set (f:Int) s:=by
 unfold Arr5.set
 split
 ·rfl
 ·split
  ·rfl
  ·split
   ·rfl
   ·split <;> rfl
theorem hjr_len (c:List Cell) (p q:Int) (g:Int→List RL):(g p).length≤(flt (joinC c p (q - 1) (g p))).length:=join_rest c p (q - 1) (g p)
theorem rests_L1_eq {f:Nat} (hf:f<5) {a b:List Bx} (ha:a.length≤2000000000) (hb:b.length≤2000000000) (hai:∀ x∈a,BIn x) (hbi:∀ x∈b,BIn x) {k:Int}
  {z0:List Bx→List Bx→Int→Int→Option (List Bx)} {ss:List Int} (hss:ss.length≤1000000) {g:Int→List RL} (hg:∀ v,∀ b∈g v,b.length=5 - (f + 1))
  (hz:∀ v,0≤v→v≤topOf (f:Int)→z0 (cov a f v) (cov b f v) k ((f + 1:Nat):Int)=some ((g v).map (pad (f + 1)))) :
  ∀ (rem:List Int) (p:Int) (i n:Nat) (c:List Cell) (last:List Bx),(ss++[topOf (f:Int) + 1]).drop i=p :: rem→rem.length<n→Upto g p c→Steps g (p :: rem)→0≤p→(i=0 ↔ p=0)→(0<p→last=(g (p - 1)).map (pad (f + 1)))→(flt (runC g c (p :: rem))).length≤2000000000 →
  Zcu a b k (f:Int) z0 ss n ((flt c).map (pad f)) last (i:Int)=some ((flt (runC g c (p :: rem))).map (pad f)):=by
 intro rem
 induction rem with
 | nil=>
  intro p i n c last hd hn hu hs hp hi0 hlast hc
  cases n with
  | zero=>simp at hn
  | succ n=>
  have hi:ss.length=i:=by
   have h1:=congrArg List.length hd
   rw [List.length_drop,List.length_append] at h1
   simp at h1; omega
  rw [Zcu,if_neg (by simp; omega)]
  rfl
 | cons q rem ih=>
  intro p i n c last hd hn hu hs hp hi0 hlast hc
  cases n with
  | zero=>simp at hn
  | succ n=>
  obtain ⟨hpq,hgc,hs'⟩:=hs
  have htop:=topN hf
  have hlen:i + 1≤ss.length:=by
   have h1:=congrArg List.length hd
   rw [List.length_drop,List.length_append] at h1
   simp at h1; omega
  have gi:∀ j,((ss++[topOf (f:Int) + 1]).drop i)[j]? = (ss++[topOf (f:Int) + 1])[i + j]?:=fun j=>List.getElem?_drop
  have h0:idx ss (i:Int)=some p:=by
   have h1:=gi 0
   rw [hd,Nat.add_zero,List.getElem?_append_left (by omega)] at h1
   simp only [List.getElem?_cons_zero] at h1
   rw [idx_get (by omega),← List.getElem?_eq_getElem,← h1]
  have hd':(ss++[topOf (f:Int) + 1]).drop (i + 1)=q :: rem:=by rw [← List.drop_drop,hd]; rfl
  have hasc:∀ (l:List Int) (x:Int),Steps g (x :: l)→∀ y,(x :: l).getLast? = some y→x≤y:=by
   intro l
   induction l with
   | nil=>intro x _ y hy; simp at hy; omega
   | cons z l ih2=>
    intro x hx y hy
    rw [List.getLast?_cons_cons] at hy
    have:=ih2 z hx.2.2 y hy
    have:=hx.1
    omega
  have hqt:q≤topOf (f:Int) + 1:=by
   refine hasc rem q hs' _ ?_
   rw [← hd',List.getLast?_drop,if_neg (by rw [List.length_append]; simp; omega),List.getLast?_concat]
  have hpt:p≤topOf (f:Int):=by omega
  have hend:(if (decide ((IntKind.wrap .i64 ((i:Int) + (1:Int)))<(List.length ss:Int)))=true then
    (idx ss (IntKind.wrap .i64 ((i:Int) + (1:Int)))).bind fun (x486:Int)=>
    some (IntKind.wrap .u64 (x486 - (1:Int)))
   else
    some (IntKind.wrap .u64 (topOf (f:Int))))=some (q - 1):=by
   rw [wsucc (by omega)]
   have h1:=gi 1
   rw [hd] at h1
   simp only [List.getElem?_cons_succ,List.getElem?_cons_zero] at h1
   by_cases hi2:i + 1<ss.length
   ·rw [if_pos (by simp; omega)]
    rw [List.getElem?_append_left hi2,List.getElem?_eq_getElem hi2,Option.some.injEq] at h1
    rw [idx_get hi2,← h1]
    simp only [Option.bind_some]
    rw [wu64 (by omega) (by omega)]
   ·rw [if_neg (by simp; omega)]
    rw [List.getElem?_append_right (by omega),show i + 1 - ss.length=0 by omega] at h1
    simp only [List.getElem?_cons_zero,Option.some.injEq] at h1
    rw [wu64 (by omega) (by omega),h1]
    congr 1
    omega
  have e1:IntKind.wrap .u32 p=p:=wu32 hp (by omega)
  have hu':=hu.step hp hpq hgc
  have hq1:g (q - 1)=g p:=hgc _ (by omega) (by omega)
  have hrun:runC g c (p :: q :: rem)=runC g (joinC c p (q - 1) (g p)) (q :: rem):=rfl
  rw [hrun] at hc ⊢
  have hfin:=runC_size g (q :: rem) (joinC c p (q - 1) (g p))
  have key:=ih q (i + 1) n (joinC c p (q - 1) (g p)) ((g p).map (pad (f + 1))) hd' (by simp at hn; omega) hu' hs' (by omega) (by omega) (fun _=>by rw [hq1]) hc
  rw [Zcu,if_pos (by simp; omega),Top_eq _ (by omega) (by omega)]
  simp only [Option.bind_some,hend,h0]
  rw [at_eq ha (by omega) (by omega) _ hai,at_eq hb (by omega) (by omega) _ hbi]
  simp only [Option.bind_some]
  rw [wsucc (i:=f) (by omega),hz p hp hpt]
  simp only [Option.bind_some,List.length_map]
  by_cases hg0:g p=[]
  ·have ej:joinC c p (q - 1) (g p)=c:=by unfold joinC; rw [if_pos hg0]
   rw [ej] at key ⊢
   rw [hg0]
   have h3:=rests_L3_eq hf h0 hp (by omega) (e:=q - 1) (by omega) (by omega) [] (fun _ h=>(by cases h)) ((flt c).map (pad f)) (by
    have:=runC_size g (q :: rem) c
    rw [ej] at hfin hc
    rw [List.length_map]; simp; omega)
   simp only [List.map_nil,List.append_nil] at h3
   have hb2:(decide ((i:Int) > 0) && decide (((([]:List RL).length:Nat):Int) > 0))=false:=by simp
   rw [hb2]
   simp only [Bool.false_eq_true,if_false,Option.bind_some,List.map_nil,h3]
   rw [wsucc (by omega)]
   rw [hg0] at key
   exact key
  ·have hgl:0<(g p).length:=List.length_pos_iff.2 hg0
   have hj:=join_prev (q:=q - 1) hu hg0
   have hb2:(decide ((i:Int) > 0) && decide (((g p).length:Int) > 0))=decide (0<p):=by
    rw [Bool.eq_iff_iff]; simp; omega
   rw [hb2]
   by_cases hjj:0<p∧g (p - 1)=g p
   ·rw [if_pos hjj] at hj
    rw [hlast hjj.1,hjj.2,decide_eq_true hjj.1]
    simp only [if_true]
    rw [Same_eq (by rw [List.length_map]; have:=hjr_len c p q g; omega)]
    simp only [decide_true,Option.bind_some,if_true]
    have h3:=hu.at_ (p - 1)
    rw [if_pos (by omega),hjj.2] at h3
    cases hl:c.getLast? with
    | none=>
     rw [List.getLast?_eq_none_iff] at hl
     subst hl
     exact absurd h3.symm hg0
    | some y=>
     rw [hl] at hj
     obtain ⟨d,rfl⟩:=List.getLast?_eq_some_iff.1 hl
     simp only [List.dropLast_concat] at hj
     rw [hj] at key hfin hc ⊢
     have hy2:y.2=g p:=by
      have hjo:=hj
      unfold joinC at hjo
      rw [if_neg hg0,List.getLast?_concat] at hjo
      simp only [List.dropLast_concat] at hjo
      split at hjo
      ·rename_i hh; exact hh.2
      ·have:=congrArg List.length hjo
       simp at this
     have hyr:∀ b∈y.2,b.length=4 - f:=fun b hb=>by rw [hy2] at hb; have:=hg p b hb; omega
     have hfl:flt (d++[y])=flt d++y.2.map (y.1 :: ·):=by rw [flt_app]; simp [flt]
     have hfl2:flt (d++[((⟨y.1.Lo,q - 1⟩:api_Range),g p)])=flt d++(g p).map ((⟨y.1.Lo,q - 1⟩:api_Range) :: ·):=by rw [flt_app]; simp [flt]
     have hlen2:(flt (d++[y])).length=(flt d).length + (g p).length:=by rw [hfl,List.length_append,List.length_map,hy2]
     have hlen3:(flt (d++[((⟨y.1.Lo,q - 1⟩:api_Range),g p)])).length=(flt d).length + (g p).length:=by rw [hfl2,List.length_append,List.length_map]
     rw [hlen3] at hfin
     rw [hlen2,wi64 (by omega) (by omega),show (((flt d).length + (g p).length:Nat):Int) - ((g p).length:Int)=(((flt d).length:Nat):Int) by omega]
     rw [rests_L2_eq hf (by omega) (by omega) _ _ fuel _ rfl (by rw [List.length_map,hlen2]; unfold fuel; omega) (by rw [List.length_map,hlen2]; omega) (by rw [List.length_map,hlen2]; omega)]
     simp only [Option.bind_some]
     rw [wsucc (by omega)]
     have e9:((flt (d++[y])).map (pad f)).take (flt d).length++(((flt (d++[y])).map (pad f)).drop (flt d).length).map (fun x=>x.set (f:Int) ({ (x.get (f:Int)) with Hi:=q - 1 }:api_Range))=(flt (d++[((⟨y.1.Lo,q - 1⟩:api_Range),g p)])).map (pad f):=by
      rw [hfl,hfl2,List.map_append,List.take_left' (by rw [List.length_map]),List.drop_left' (by rw [List.length_map]),List.map_append,hy2,List.map_map,List.map_map,List.map_map]
      congr 1
      refine List.map_congr_left fun b hb=>?_
      have hb4:b.length=4 - f:=hyr b (by rw [hy2]; exact hb)
      have hsf:sf f (pad f (y.1 :: b))=y.1 :: b:=sf_pad (by omega) (by rw [List.length_cons]; omega)
      show (pad f (y.1 :: b)).set (f:Int) ({ ((pad f (y.1 :: b)).get (f:Int)) with Hi:=q - 1 }:api_Range)=pad f (⟨y.1.Lo,q - 1⟩ :: b)
      have hget:(pad f (y.1 :: b)).get (f:Int)=y.1:=by
       rw [sf_succ hf,List.cons.injEq] at hsf
       exact hsf.1
      rw [hget,← set_pad hf hb4 y.1,set_set,set_pad hf hb4]
     rw [e9]
     have:=key
     exact this
   ·rw [if_neg hjj] at hj
    rw [hj] at key hfin hc ⊢
    have hfl2:flt (c++[((⟨p,q - 1⟩:api_Range),g p)])=flt c++(g p).map ((⟨p,q - 1⟩:api_Range) :: ·):=by rw [flt_app]; simp [flt]
    have hlen3:(flt (c++[((⟨p,q - 1⟩:api_Range),g p)])).length=(flt c).length + (g p).length:=by rw [hfl2,List.length_append,List.length_map]
    rw [hlen3] at hfin
    have hcond:(if decide (0<p)=true then (Zen ((g p).map (pad (f + 1))) last).bind fun (r503:Bool)=>some r503 else some false)=some false:=by
     by_cases h3:0<p
     ·rw [if_pos (decide_eq_true h3),hlast h3,Same_eq (by rw [List.length_map]; omega)]
      simp only [Option.bind_some]
      rw [decide_eq_false]
      intro he
      exact hjj ⟨h3,((map_pad_inj (by omega) (hg p) (hg (p - 1))).1 he).symm⟩
     ·rw [if_neg (by simpa using h3)]
    rw [hcond]
    simp only [Option.bind_some,Bool.false_eq_true,if_false]
    rw [rests_L3_eq hf h0 hp (by omega) (e:=q - 1) (by omega) (by omega) (g p) (fun b hb=>by have:=hg p b hb; omega) ((flt c).map (pad f)) (by rw [List.length_map]; omega)]
    simp only [Option.bind_some]
    rw [wsucc (by omega)]
    rw [hfl2,List.map_append] at key
    exact key
end Go.AM
set_option maxRecDepth 100000
namespace Go.AM
open Go
theorem rests_eq {k:Int}:∀ (j f nr:Nat) (a b:List Bx) (l:List RL),f + j=5→j<nr→a.length + b.length≤400000→(∀ x∈a,BOk x)→(∀ x∈b,BOk x) →
  Is (opc k) (tops5.drop f) (a.map (sf f)) (b.map (sf f)) l→l.length≤2000000000→Zbe nr a b k (f:Int)=some (l.map (pad f)):=by
 intro j
 induction j with
 | zero=>
  intro f nr a b l hf hn hl ha hb hL hlen
  have hf:f=5:=by omega
  subst hf
  cases nr with
  | zero=>omega
  | succ nr=>
  have h1:=hL.mem [] trivial
  rw [mS5,mS5] at h1
  rw [show ((5:Nat):Int)=5 from rfl,Zbe,if_pos (by decide),holds_eq]
  simp only [Option.bind_some]
  rw [← h1]
  rcases hL.cf with rfl | rfl
  ·rfl
  ·rfl
 | succ j ih=>
  intro f nr a b l hf hn hl ha hb hL hlen
  have hf5:f<5:=by omega
  cases nr with
  | zero=>omega
  | succ nr=>
  rw [tops_succ hf5] at hL
  rw [Zbe,if_neg (by simp; omega)]
  obtain ⟨r,hr1,hr2⟩:=none_ok k (decide ((a.length:Int) > 0)) (decide ((b.length:Int) > 0))
  rw [hr1]
  simp only [Option.bind_some]
  cases r with
  | true=>
   rw [if_pos rfl]
   have:l=[]:=by
    refine hL.inj ⟨CF_nil _,fun p hp=>?_⟩
    rw [mS_nil]
    refine (hr2 rfl _ _ (fun h=>?_) (fun h=>?_)).symm
    ·have:a=[]:=List.length_eq_zero_iff.1 (by simp at h; simp [h])
     subst this; rfl
    ·have:b=[]:=List.length_eq_zero_iff.1 (by simp at h; simp [h])
     subst this; rfl
   rw [this]
   rfl
  | false=>
   rw [if_neg (by simp)]
   rw [ranges_eq hf5 hl]
   simp only [Option.bind_some]
   rw [Top_eq _ (by omega) (by omega)]
   simp only [Option.bind_some]
   have hab:∀ x∈a++b,BOk x:=fun x hx=>(List.mem_append.1 hx).elim (ha x) (hb x)
   obtain ⟨ss,hs1,hs2⟩:=Starts_ok (rs:=(a++b).map fun x=>x.get (f:Int)) (top:=topOf (f:Int)) (by rw [List.length_map,List.length_append]; exact hl) (topN hf5).1 (by have:=topN hf5; omega) (fun y hy=>by
    obtain ⟨x,hx,rfl⟩:=List.mem_map.1 hy
    exact (hab x hx).at_ hf5)
   rw [hs1]
   simp only [Option.bind_some]
   have hps:=starts_pts hf5 hab hs2
   obtain ⟨c,rfl,ho,hc⟩:=hL.cf
   obtain ⟨⟨tl,he,hst,hr⟩,hg,hz⟩:=level hf5 hps hL ho hc
   have hlen2:=hs2.len
   rw [List.length_map,List.length_append] at hlen2
   have hmain:=rests_L1_eq hf5 (a:=a) (b:=b) (by omega) (by omega) (fun x hx=>(ha x hx).bin) (fun x hx=>(hb x hx).bin) (k:=k) (z0:=Zbe nr) (ss:=ss) (by omega) (g:=lk c) (fun v b' hb'=>by rw [hg v b' hb']; omega) (fun v h0 h1=>by
    refine ih (f + 1) nr _ _ _ (by omega) (by omega) ?_ (BOk.all ha _ _) (BOk.all hb _ _) (hz v h0 h1) ?_
    ·have:=cov_len a (f:Int) v
     have:=cov_len b (f:Int) v
     omega
    ·have:=lk_le c ho v; omega) tl 0 0 fuel [] [] (by rw [he]; rfl) (by
     have:=congrArg List.length he
     rw [List.length_append] at this
     simp at this
     unfold fuel; omega) (Upto.nil _) hst (Int.le_refl _) (by simp) (fun h=>by omega) (by rw [hr]; exact hlen)
   rw [hr] at hmain
   rw [show ((0:Nat):Int)=0 from rfl] at hmain
   rw [show (flt []).map (pad f)=[] from rfl] at hmain
   rw [hmain]
   rfl
def mem (l:List Bx) (p:List Int):Bool:=mS (l.map toL) p
def CFb (l:List Bx):Prop:=CF tops5 (l.map toL)
theorem CF_vR:∀ (ts:List Int) {l:List RL},CF ts l→∀ b∈l,vR ts b
 | [],l,h,b,hb=>by
  rcases h with rfl | rfl
  ·cases hb
  ·rw [List.mem_singleton] at hb; rw [hb]; trivial
 | t :: ts,l,⟨c,h1,h2,h3⟩,b,hb=>by
  subst h1
  obtain ⟨x,hx,hb⟩:=List.mem_flatMap.1 hb
  obtain ⟨b',hb',rfl⟩:=List.mem_map.1 hb
  have:=h2.ok x hx
  exact ⟨this.1,this.2.1,this.2.2.1,CF_vR ts (h3 x hx) b' hb'⟩
theorem vR_ok {b:Bx} (h:vR tops5 (toL b)):BOk b:=by
 obtain ⟨a0,a1,a2,b0,b1,b2,c0,c1,c2,d0,d1,d2,e0,e1,e2,_⟩:=h
 exact ⟨⟨a0,a1,a2⟩,⟨b0,b1,b2⟩,⟨c0,c1,c2⟩,⟨d0,d1,d2⟩,⟨e0,e1,e2⟩⟩
theorem CFb.ok {l:List Bx} (h:CFb l):∀ b∈l,BOk b:=fun b hb=>vR_ok (CF_vR _ h _ (List.mem_map_of_mem hb))
theorem map_toL_ofL {l:List RL} (h:∀ b∈l,b.length=5):(l.map (pad 0)).map toL=l:=by
 rw [List.map_map]
 conv=>rhs; rw [← List.map_id l]
 exact List.map_congr_left fun b hb=>toL_ofL (h b hb)
theorem tops_pos:∀ t∈tops5,0≤t:=by unfold tops5; simp
theorem can_exists (op:Bool→Bool→Bool) (a b:List Bx):∃ l:List Bx,Is op tops5 (a.map toL) (b.map toL) (l.map toL):=by
 obtain ⟨l,h⟩:=Is.exists_ op tops5 tops_pos (a.map toL) (b.map toL)
 refine ⟨l.map (pad 0),?_⟩
 rw [map_toL_ofL (fun b hb=>CF_len _ h.cf b hb)]
 exact h
structure Can (op:Bool→Bool→Bool) (a b l:List Bx):Prop where
 cf:CFb l
 mem:∀ p,vP tops5 p→mem l p=op (mem a p) (mem b p)
theorem Can.is {op:Bool→Bool→Bool} {a b l:List Bx} (h:Can op a b l):Is op tops5 (a.map toL) (b.map toL) (l.map toL):=⟨h.cf,h.mem⟩
theorem map_toL_inj {l l':List Bx} (h:l.map toL=l'.map toL):l=l':=by
 have:=congrArg (List.map ofL) h
 rw [List.map_map,List.map_map] at this
 have e:(ofL ∘ toL)=id:=funext fun b=>ofL_toL b
 rw [e,List.map_id,List.map_id] at this
 exact this
theorem CFb.inj {l l':List Bx} (h:CFb l) (h':CFb l') (e:∀ p,vP tops5 p→mem l p=mem l' p):l=l':=map_toL_inj (CF_inj _ h h' e)
theorem Can.inj {op:Bool→Bool→Bool} {a b l l':List Bx} (h:Can op a b l) (h':Can op a b l'):l=l':=h.cf.inj h'.cf fun p hp=>by rw [h.mem p hp,h'.mem p hp]
theorem Can.ex (op:Bool→Bool→Bool) (a b:List Bx):∃ l,Can op a b l:=by
 obtain ⟨l,h⟩:=can_exists op a b
 exact ⟨l,h.cf,h.mem⟩
theorem CFb.nil:CFb []:=CF_nil _
theorem mem_nil (p:List Int):mem [] p=false:=rfl
theorem Can.right {op:Bool→Bool→Bool} (h:∀ x,op x false=x) {a:List Bx} (ha:CFb a):Can op a [] a:=⟨ha,fun p _=>by rw [mem_nil,h]⟩
theorem Can.left {op:Bool→Bool→Bool} (h:∀ x,op false x=x) {b:List Bx} (hb:CFb b):Can op [] b b:=⟨hb,fun p _=>by rw [mem_nil,h]⟩
theorem pad_toL (l:List Bx):(l.map toL).map (pad 0)=l:=by
 rw [List.map_map]
 have e:(pad 0 ∘ toL)=id:=funext fun b=>ofL_toL b
 rw [e,List.map_id]
theorem canon_top {op:Bool→Bool→Bool} {C:Nat→Int→List Bx→List Bx→Int→Option (List Bx × Bool)} (hC:Canon op C) {a b l:List Bx} (hl:a.length + b.length≤400000) (ha:∀ x∈a,BOk x) (hb:∀ x∈b,BOk x) (h:Can op a b l) :
  C fuel 0 a b 4096=some (if l.length≤4096 then (l,true) else ([],false)):=by
 have:=canon_eq hC (m:=4096) (by omega) (by omega) 5 0 fuel a b (l.map toL) (by omega) (by unfold fuel; omega) hl ha hb h.is
 rw [show ((0:Nat):Int)=0 from rfl,show ((4096:Nat):Int)=4096 from rfl] at this
 rw [this]
 unfold capd
 rw [List.length_map,pad_toL]
theorem rests_top {k:Int} {a b l:List Bx} (hl:a.length + b.length≤400000) (ha:∀ x∈a,BOk x) (hb:∀ x∈b,BOk x) (h:Can (opc k) a b l) (hlen:l.length≤2000000000):Zbe fuel a b k 0=some l:=by
 have:=rests_eq (k:=k) 5 0 fuel a b (l.map toL) (by omega) (by unfold fuel; omega) hl ha hb h.is (by rw [List.length_map]; exact hlen)
 rw [show ((0:Nat):Int)=0 from rfl] at this
 rw [this,pad_toL]
def capB (l:List Bx):List Bx × Int:=if l.length≤4096 then (l,0) else ([],3)
theorem limited_eq (l:List Bx):Zeh l=some (capB l):=by
 unfold Zeh capB
 by_cases h:l.length≤4096
 ·rw [if_neg (by simp; omega),if_pos h]
 ·rw [if_pos (by simp; omega),if_neg h]
theorem combine_either {a b l:List Bx} (hl:a.length + b.length≤400000) (ha:∀ x∈a,BOk x) (hb:∀ x∈b,BOk x) (h:Can (fun x y=>x || y) a b l):Za3 a b=some (capB l):=by
 unfold Za3 capB
 rw [canon_top canon_either hl ha hb h]
 by_cases h:l.length≤4096
 ·rw [if_pos h,if_pos h]; rfl
 ·rw [if_neg h,if_neg h]; rfl
theorem combine_both {a b l:List Bx} (hl:a.length + b.length≤400000) (ha:∀ x∈a,BOk x) (hb:∀ x∈b,BOk x) (h:Can (fun x y=>x && y) a b l):Zcb a b=some (capB l):=by
 unfold Zcb capB
 rw [canon_top canon_both hl ha hb h]
 by_cases h:l.length≤4096
 ·rw [if_pos h,if_pos h]; rfl
 ·rw [if_neg h,if_neg h]; rfl
theorem combine_without {a b l:List Bx} (hl:a.length + b.length≤400000) (ha:∀ x∈a,BOk x) (hb:∀ x∈b,BOk x) (h:Can (fun x y=>x && !y) a b l):Zbz a b=some (capB l):=by
 unfold Zbz capB
 rw [canon_top canon_without hl ha hb h]
 by_cases h:l.length≤4096
 ·rw [if_pos h,if_pos h]; rfl
 ·rw [if_neg h,if_neg h]; rfl
end Go.AM
set_option maxRecDepth 100000
namespace Go.AM
open Go
theorem Zku {a b:api_Range}:Zdh a b=true ↔ a=b:=by rw [eq_rg]; simp
structure RunTo (f:Nat) (l:List Bx) (r:api_Range) (n:Nat):Prop where
 h1:n≤l.length
 eq:∀ i (h:i<l.length),i<n→(l[i]).get (f:Int)=r
 ne:∀ (h:n<l.length),(l[n]).get (f:Int) ≠ r
theorem prog_run {f:Nat} (hf:f<5) {l:List Bx} (hl:l.length≤1000000) {b0:Bx} (h0:l[0]? = some b0):∀ (k j n:Nat),l.length - j=k→k<n→1≤j→j≤l.length→(∀ i (h:i<l.length),i<j→(l[i]).get (f:Int)=b0.get (f:Int)) →
  ∃ N:Nat,Zb2 (f:Int) l n (j:Int)=some (N:Int)∧j≤N∧RunTo f l (b0.get (f:Int)) N:=by
 intro k
 have hpos:0<l.length:=by
  rcases l with _ | ⟨x,l⟩
  ·simp at h0
  ·simp
 have i0:idx l (0:Int)=some b0:=by rw [show (0:Int)=((0:Nat):Int) from rfl,idx_get hpos,← List.getElem?_eq_getElem,h0]
 induction k with
 | zero=>
  intro j n hk hn h1 hj he
  cases n with
  | zero=>omega
  | succ n=>
  have hd:decide ((j:Int)<(l.length:Int))=false:=by simp; omega
  rw [Zb2,hd]
  exact ⟨j,rfl,Nat.le_refl _,hj,he,fun h=>by omega⟩
 | succ k ih=>
  intro j n hk hn h1 hj he
  cases n with
  | zero=>omega
  | succ n=>
  have hjl:j<l.length:=by omega
  have hd:decide ((j:Int)<(l.length:Int))=true:=by simp; omega
  rw [Zb2,hd]
  simp only [Option.bind_some,if_true,idx_get hjl,i0]
  rw [if_pos ⟨by omega,by omega⟩,if_pos ⟨by omega,by omega⟩]
  simp only [Option.bind_some]
  by_cases hq:(l[j]).get (f:Int)=b0.get (f:Int)
  ·rw [if_pos (Zku.2 hq),wsucc (by omega)]
   obtain ⟨N,e,g1,g2⟩:=ih (j + 1) n (by omega) (by omega) (by omega) (by omega) (fun i h hi=>by
    rcases Nat.lt_or_eq_of_le (Nat.lt_succ_iff.1 hi) with h2 | h2
    ·exact he i h h2
    ·subst h2; exact hq)
   exact ⟨N,e,by omega,g2⟩
  ·rw [if_neg (fun h=>hq (Zku.1 h))]
   exact ⟨j,rfl,Nat.le_refl _,hj,he,fun _=>hq⟩
theorem run_split {f:Nat} (hf:f<5) {l:List Bx} {r:api_Range} {n:Nat} (hn:1≤n) (h:RunTo f l r n) (hl:l ≠ []) :
  l.map (sf f)=((l.take n).map (sf (f + 1))).map (r :: ·)++(l.drop n).map (sf f)∧(l.take n).map (sf (f + 1)) ≠ []∧∀ b,((l.drop n).map (sf f)).head? = some b→∃ r' b',b=r' :: b'∧r' ≠ r:=by
 refine ⟨?_,?_,?_⟩
 ·conv=>lhs; rw [← List.take_append_drop n l,List.map_append]
  congr 1
  rw [List.map_map]
  refine List.map_congr_left fun b hb=>?_
  obtain ⟨i,hi,rfl⟩:=List.getElem_of_mem hb
  have hi2:i<n∧i<l.length:=by rw [List.length_take] at hi; omega
  rw [List.getElem_take,sf_succ hf,h.eq i hi2.2 hi2.1]
  rfl
 ·intro e
  have:=congrArg List.length e
  simp only [List.length_map,List.length_take,List.length_nil] at this
  have:0<l.length:=List.length_pos_iff.2 hl
  omega
 ·intro b hb
  by_cases hnl:n<l.length
  ·rw [List.drop_eq_getElem_cons hnl] at hb
   simp only [List.map_cons,List.head?_cons,Option.some.injEq] at hb
   exact ⟨_,_,by rw [← hb,sf_succ hf],h.ne hnl⟩
  ·rw [List.drop_eq_nil_of_le (by omega)] at hb
   simp at hb
def zpre (f:Nat) (b:Bx):Bx:=pad (f + 1) (sf (f + 1) b)
theorem rests2_eq {f:Nat} (hf:f<5) {v:List Bx} {i:Nat} (hi:i<v.length):Zba (f:Int) (i:Int) fuel v 0=some (v.set i (zpre f v[i])):=by
 obtain ⟨n,hn⟩:∃ n,fuel=n + 6:=⟨fuel - 6,by unfold fuel; omega⟩
 rw [hn]
 have stop:∀ (k:Nat) (m:Nat) (w:List Bx),f<k→Zba (f:Int) (i:Int) (m + 1) w (k:Int)=some w:=by
  intro k m w hk
  rw [Zba,if_neg (by simp; omega)]
 have nx:∀ (k:Nat) (m:Nat) (x:Bx),k<5→k≤f→Zba (f:Int) (i:Int) (m + 1) (v.set i x) (k:Int)=Zba (f:Int) (i:Int) m (v.set i (x.set (k:Int) zr)) ((k + 1:Nat):Int):=by
  intro k m x hk hkf
  rw [Zba,if_pos (by simp; omega),idx_get (show i<(v.set i x).length by rw [List.length_set]; exact hi),List.getElem_set_self]
  simp only [Option.bind_some,Int.toNat_natCast]
  rw [if_pos ⟨by omega,by omega⟩,wsucc (by omega),List.set_set]
  rfl
 have first:v=v.set i v[i]:=(List.set_getElem_self hi).symm
 conv=>lhs; rw [first]
 rw [show (0:Int)=((0:Nat):Int) from rfl]
 rcases fiveN hf with rfl | rfl | rfl | rfl | rfl
 ·rw [nx 0 _ _ (by omega) (by omega),stop _ _ _ (by omega)]; rfl
 ·rw [nx 0 _ _ (by omega) (by omega),nx 1 _ _ (by omega) (by omega),stop _ _ _ (by omega)]; rfl
 ·rw [nx 0 _ _ (by omega) (by omega),nx 1 _ _ (by omega) (by omega),nx 2 _ _ (by omega) (by omega),stop _ _ _ (by omega)]; rfl
 ·rw [nx 0 _ _ (by omega) (by omega),nx 1 _ _ (by omega) (by omega),nx 2 _ _ (by omega) (by omega),nx 3 _ _ (by omega) (by omega),stop _ _ _ (by omega)]; rfl
 ·rw [nx 0 _ _ (by omega) (by omega),nx 1 _ _ (by omega) (by omega),nx 2 _ _ (by omega) (by omega),nx 3 _ _ (by omega) (by omega),nx 4 _ _ (by omega) (by omega),stop _ _ _ (by omega)]; rfl
def stepN {α:Type} (g:α→α) (s:List α) (i:Nat) (_:α):List α:=match s[i]? with
 | some x=>s.set i (g x)
 | none=>s
theorem foldI_setN {α:Type} (g:α→α):∀ (l pre:List α),foldI (stepN g) (pre++l) pre.length l=pre++l.map g
 | [],pre=>by simp [foldI]
 | x :: l,pre=>by
  have e:foldI (stepN g) (pre++x :: l) pre.length (x :: l)=foldI (stepN g) (stepN g (pre++x :: l) pre.length x) (pre.length + 1) l:=rfl
  rw [e]
  have h1:(pre++x :: l)[pre.length]? = some x:=by rw [List.getElem?_append_right (Nat.le_refl _),Nat.sub_self]; rfl
  have h2:(pre++x :: l).set pre.length (g x)=(pre++[g x])++l:=by rw [List.set_append_right _ _ (Nat.le_refl _),Nat.sub_self]; simp
  have h3:stepN g (pre++x :: l) pre.length x=(pre++[g x])++l:=by unfold stepN; rw [h1]; exact h2
  rw [h3]
  have:=foldI_setN g l (pre++[g x])
  rw [List.length_append,List.length_singleton] at this
  rw [this]
  simp
theorem prests_eq {f:Nat} (hf:f<5) {l:List Bx} (hl:l.length≤2000000000):Zej (f:Int) l=some (l.map (zpre f)):=by
 unfold Zej
 rw [if_pos (by unfold lim; omega)]
 have:=list_fold (L:=Zce (f:Int) l) l (stepN (zpre f)) id (fun _ s=>s.length=l.length) (by omega) (fun n s i hi hs=>by
  rw [Zce]
  simp only [show ((i:Int)<(l.length:Int)) from by omega,decide_true,if_true,Option.bind_some,wsucc (by omega:i<1000000000001)]
  rw [rests2_eq hf (show i<s.length by omega)]
  have h3:stepN (zpre f) s i l[i]=s.set i (zpre f s[i]):=by unfold stepN; rw [List.getElem?_eq_getElem (show i<s.length by omega)]
  rw [h3]
  exact ⟨rfl,by rw [List.length_set]; exact hs⟩) (fun n s hs=>by rw [Zce]; simp) l rfl
 have h2:=foldI_setN (zpre f) l []
 rw [List.nil_append,List.nil_append,List.length_nil] at h2
 rw [this.1,h2]
 rfl
def lastG (f:Nat):Option Cell→packetset_group
 | none=>Zef
 | some x=>gr1 f x
theorem divided_L1_eq {f:Nat} (hf:f<5) {z0:Int→List Bx→Option Bool}
  (hz:∀ l:List Bx,l.length≤1000000→(∀ x∈l,BOk x)→∃ r,z0 ((f + 1:Nat):Int) l=some r∧(r=true ↔ CF (tops5.drop (f + 1)) (l.map (sf (f + 1))))) :
  ∀ (K n:Nat) (l:List Bx) (last:Option Cell),l.length≤K→K<n→l.length≤1000000→(∀ x∈l,BOk x)→(∀ y∈last,y.2 ≠ []∧y.2.length≤1000000∧0≤y.1.Hi∧y.1.Hi<4294967296∧∀ b∈y.2,b.length=5 - (f + 1)) →
  ∃ o,Zbm (f:Int) z0 n (lastG f last) l=some o∧((∃ c,l.map (sf f)=flt c∧Nx (topOf (f:Int)) (tops5.drop (f + 1)) last c)→∃ g,o=.inl g)∧(¬ (∃ c,l.map (sf f)=flt c∧Nx (topOf (f:Int)) (tops5.drop (f + 1)) last c)→o=.inr false):=by
 intro K
 induction K with
 | zero=>
  intro n l last hlK hn hl hok hlast
  have:l=[]:=List.length_eq_zero_iff.1 (by omega)
  subst this
  cases n with
  | zero=>omega
  | succ n=>
  rw [Zbm,if_neg (by simp)]
  exact ⟨_,rfl,fun _=>⟨_,rfl⟩,fun h=>absurd ⟨[],rfl,Nx.nil ..⟩ h⟩
 | succ K ih=>
  intro n l last hlK hn hl hok hlast
  cases n with
  | zero=>omega
  | succ n=>
  cases hll:l with
  | nil=>
   rw [Zbm,if_neg (by simp)]
   exact ⟨_,rfl,fun _=>⟨_,rfl⟩,fun h=>absurd ⟨[],rfl,Nx.nil ..⟩ h⟩
  | cons b0 l'=>
  have hne:l ≠ []:=by rw [hll]; exact List.cons_ne_nil _ _
  have hpos:0<l.length:=List.length_pos_iff.2 hne
  have h0:l[0]? = some b0:=by rw [hll]; rfl
  have i0:idx l (0:Int)=some b0:=by rw [show (0:Int)=((0:Nat):Int) from rfl,idx_get hpos,← List.getElem?_eq_getElem,h0]
  obtain ⟨N,e1,g1,g2⟩:=prog_run hf hl h0 (l.length - 1) 1 fuel rfl (by unfold fuel; omega) (Nat.le_refl _) (by omega) (fun i h hi=>by
   have:i=0:=by omega
   subst this
   rw [List.getElem?_eq_getElem h,Option.some.injEq] at h0
   rw [h0])
  rw [← hll]
  obtain ⟨s1,s2,s3⟩:=run_split hf g1 g2 hne
  have hb0:BOk b0:=hok b0 (by rw [hll]; exact List.mem_cons_self ..)
  have hb0r:=hb0.at_ hf
  have htop:=topN hf
  rw [Zbm,if_pos (by simp; omega)]
  rw [show ((1:Nat):Int)=1 from rfl] at e1
  rw [e1]
  simp only [Option.bind_some,i0,Int.toNat_natCast,Int.toNat_zero,List.drop_zero]
  have hN:=g2.h1
  rw [if_pos ⟨by omega,by omega⟩,if_pos ⟨by omega,by omega,by omega⟩]
  have htl:(l.take N).length≤1000000:=by rw [List.length_take]; omega
  rw [prests_eq hf (by omega)]
  simp only [Option.bind_some]
  rw [if_pos ⟨by omega,by omega,by omega⟩,wsucc (by omega)]
  obtain ⟨rv,z1,z2⟩:=hz (l.take N) htl (fun x hx=>hok x (List.mem_of_mem_take hx))
  rw [z1]
  simp only [Option.bind_some]
  rw [s1]
  have hrun:=Nx.run (t:=topOf (f:Int)) (ts:=tops5.drop (f + 1)) (last:=last) (r:=b0.get (f:Int)) s2 s3
  rw [hrun]
  cases rv with
  | false=>
   simp only [Bool.not_false,if_true]
   have hncf:¬ CF (tops5.drop (f + 1)) ((l.take N).map (sf (f + 1))):=fun h=>by have:=z2.2 h; cases this
   exact ⟨_,rfl,fun h=>absurd h.2.1 hncf,fun _=>rfl⟩
  | true=>
   simp only [Bool.not_true,Bool.false_eq_true,if_false]
   have hcf:=z2.1 rfl
   have hzl:∀ b∈(l.take N).map (sf (f + 1)),b.length=5 - (f + 1):=fun b hb=>by
    obtain ⟨x,_,rfl⟩:=List.mem_map.1 hb
    exact sf_len (by omega) x
   have hzm:(l.take N).map (zpre f)=((l.take N).map (sf (f + 1))).map (pad (f + 1)):=by rw [List.map_map]; rfl
   have hgap:∃ og:Unit ⊕ Bool,(if decide (((lastG f last).f_rest.length:Int) > 0)=true then
      (if decide ((b0.get (f:Int)).Lo≤(lastG f last).f_values.Hi)=true then some true else
       (if ((b0.get (f:Int)).Lo == (IntKind.wrap .u32 ((lastG f last).f_values.Hi + (1:Int))))=true then
        (Zaa ((l.take N).map (zpre f)) (lastG f last).f_rest).bind fun (r223:Bool)=>
        some r223
        else some false).bind fun (v225:Bool)=>
       some v225
       ).bind fun (v227:Bool)=>
      if v227=true then
       (some (.inr false):Option (Unit ⊕ Bool))
      else
       some (.inl ())
     else
      some (.inl ()))=some og∧((∀ y∈last,gp y (b0.get (f:Int),(l.take N).map (sf (f + 1))))→og=.inl ())∧(¬ (∀ y∈last,gp y (b0.get (f:Int),(l.take N).map (sf (f + 1))))→og=.inr false):=by
    cases last with
    | none=>
     rw [if_neg (show ¬ decide (((lastG f none).f_rest.length:Int) > 0)=true from fun h=>by cases h)]
     exact ⟨_,rfl,fun _=>rfl,fun h=>absurd (fun y hy=>by cases hy) h⟩
    | some y=>
     obtain ⟨y1,y2,y3,y4,y5⟩:=hlast y rfl
     have hyl:0<y.2.length:=List.length_pos_iff.2 y1
     have hall:(∀ z∈some y,gp z (b0.get (f:Int),(l.take N).map (sf (f + 1)))) ↔ gp y (b0.get (f:Int),(l.take N).map (sf (f + 1))):=⟨fun h=>h y rfl,fun h z hz=>by cases hz; exact h⟩
     simp only [lastG,show (gr1 f y).f_rest=y.2.map (pad (f + 1)) from rfl,show (gr1 f y).f_values=y.1 from rfl,List.length_map]
     rw [if_pos (by simp; omega),hall]
     unfold gp
     by_cases c1:(b0.get (f:Int)).Lo≤y.1.Hi
     ·rw [if_pos (decide_eq_true c1)]
      simp only [Option.bind_some,if_true]
      exact ⟨_,rfl,fun h=>by have:=h.1; omega,fun _=>rfl⟩
     ·rw [if_neg (by simpa using c1)]
      rw [wu32 (x:=y.1.Hi + 1) (by omega) (by omega)]
      by_cases c2:(b0.get (f:Int)).Lo=y.1.Hi + 1
      ·rw [if_pos (by simpa using c2),Equal_eq (by rw [List.length_map]; omega),hzm]
       have hmi:=map_pad_inj (f:=f + 1) (by omega) hzl y5
       simp only [Option.bind_some,decide_eq_true_eq,hmi]
       by_cases c3:(l.take N).map (sf (f + 1))=y.2
       ·rw [if_pos c3]
        exact ⟨_,rfl,fun h=>absurd c3.symm (h.2 (by omega)),fun _=>rfl⟩
       ·rw [if_neg c3]
        exact ⟨_,rfl,fun _=>rfl,fun h=>absurd ⟨by omega,fun _ h=>c3 h.symm⟩ h⟩
      ·rw [if_neg (by simpa using c2)]
       simp only [Option.bind_some,Bool.false_eq_true,if_false]
       exact ⟨_,rfl,fun _=>rfl,fun h=>absurd ⟨by omega,fun h=>absurd h.symm c2⟩ h⟩
   obtain ⟨og,og1,og2,og3⟩:=hgap
   rw [og1]
   by_cases hg:∀ y∈last,gp y (b0.get (f:Int),(l.take N).map (sf (f + 1)))
   ·rw [og2 hg]
    simp only [Option.bind_some]
    rw [if_pos ⟨by omega,by omega,by omega⟩,List.take_length]
    rw [show (packetset_group.mk (b0.get (f:Int)) ((l.take N).map (zpre f)))=lastG f (some (b0.get (f:Int),(l.take N).map (sf (f + 1)))) by rw [hzm]; rfl]
    obtain ⟨o,o1,o2,o3⟩:=ih n (l.drop N) (some (b0.get (f:Int),(l.take N).map (sf (f + 1)))) (by rw [List.length_drop]; omega) (by omega) (by rw [List.length_drop]; omega) (fun x hx=>hok x (List.mem_of_mem_drop hx)) (fun y hy=>by
     cases hy
     refine ⟨s2,by rw [List.length_map]; exact htl,by show 0≤(b0.get (f:Int)).Hi; omega,by show (b0.get (f:Int)).Hi<4294967296; omega,hzl⟩)
    refine ⟨o,o1,fun h=>o2 h.2.2.2,fun h=>o3 fun h2=>h ⟨⟨by omega,by omega,by omega⟩,hcf,hg,h2⟩⟩
   ·rw [og3 hg]
    simp only [Option.bind_some]
    exact ⟨_,rfl,fun h=>absurd h.2.2.1 hg,fun _=>rfl⟩
theorem divided_eq:∀ (k f nr:Nat) (l:List Bx),f + k=5→k<nr→l.length≤1000000→(∀ x∈l,BOk x)→∃ r,Za4 nr (f:Int) l=some r∧(r=true ↔ CF (tops5.drop f) (l.map (sf f))):=by
 intro k
 induction k with
 | zero=>
  intro f nr l hf hn hl hok
  have:f=5:=by omega
  subst this
  cases nr with
  | zero=>omega
  | succ nr=>
  rw [Za4,if_pos (by decide)]
  refine ⟨_,rfl,?_⟩
  show _ ↔ (l.map (sf 5)=[]∨l.map (sf 5)=[[]])
  rcases l with _ | ⟨x,_ | ⟨y,l⟩⟩
  ·simp
  ·exact ⟨fun _=>Or.inr rfl,fun _=>by simp⟩
  ·constructor
   ·intro h; simp at h; omega
   ·rintro (h | h) <;> simp at h
 | succ k ih=>
  intro f nr l hf hn hl hok
  have hf5:f<5:=by omega
  cases nr with
  | zero=>omega
  | succ nr=>
  rw [Za4,if_neg (by simp; omega),tops_succ hf5,CF_iff]
  obtain ⟨o,o1,o2,o3⟩:=divided_L1_eq hf5 (z0:=Za4 nr) (fun l hl hok=>ih (f + 1) nr l (by omega) (by omega) hl hok) l.length fuel l none (Nat.le_refl _) (by unfold fuel; omega) hl hok (fun y hy=>(by cases hy))
  rw [show lastG f none=Zef from rfl] at o1
  rw [o1]
  by_cases h:∃ c,l.map (sf f)=flt c∧Nx (topOf (f:Int)) (tops5.drop (f + 1)) none c
  ·obtain ⟨g,rfl⟩:=o2 h
   exact ⟨true,rfl,fun _=>h,fun _=>rfl⟩
  ·rw [o3 h]
   exact ⟨false,rfl,fun h=>(by cases h),fun h2=>absurd h2 h⟩
structure VS (l:List Bx):Prop where
 len:l.length≤4096
 ok:∀ x∈l,BOk x
 cf:CFb l
theorem VS.of {l:List Bx} (h:CFb l) (hl:l.length≤4096):VS l:=⟨hl,h.ok,h⟩
theorem filter_vB {l:List Bx} (hin:∀ x∈l,BIn x):(l.filter vB).length=l.length ↔ ∀ x∈l,BOk x:=by
 rw [List.length_filter_eq_length_iff]
 exact ⟨fun h x hx=>vB_ok (hin x hx) (h x hx),fun h x hx=>ok_vB (h x hx)⟩
theorem pValid_eq {l:List Bx} (hl:l.length≤1000000) (hin:∀ x∈l,BIn x):∃ r,Zc2 l=some r∧(r=true ↔ VS l):=by
 unfold Zc2
 by_cases h1:l.length≤4096
 ·have hd:decide ((l.length:Int)≤4096)=true:=by simp; omega
  rw [hd]
  simp only [Option.bind_some,if_true]
  rw [pvalid_eq (by omega)]
  simp only [Option.bind_some]
  by_cases h2:∀ x∈l,BOk x
  ·have he:(((l.filter vB).length:Int) == (l.length:Int))=true:=by rw [(filter_vB hin).2 h2]; simp
   rw [he]
   simp only [if_true]
   obtain ⟨r,e,g⟩:=divided_eq 5 0 fuel l (by omega) (by unfold fuel; omega) hl h2
   rw [show ((0:Nat):Int)=0 from rfl] at e
   rw [e]
   refine ⟨r,rfl,g.trans ⟨fun h=>⟨h1,h2,h⟩,fun h=>h.cf⟩⟩
  ·have he:(((l.filter vB).length:Int) == (l.length:Int))=false:=by
    have h3:¬ (l.filter vB).length=l.length:=fun h=>h2 ((filter_vB hin).1 h)
    simp only [beq_eq_false_iff_ne,ne_eq]
    omega
   rw [he]
   exact ⟨false,rfl,fun h=>(by cases h),fun h=>absurd h.ok h2⟩
 ·have hd:decide ((l.length:Int)≤4096)=false:=by simp; omega
  rw [hd]
  exact ⟨false,rfl,fun h=>(by cases h),fun h=>absurd h.len h1⟩
end Go.AM
set_option maxRecDepth 100000
namespace Go.AM
open Go
end Go.AM
set_option maxRecDepth 100000
namespace Go.AM
open Go
def sumL {α:Type} (f:α→Nat) (l:List α):Nat:=l.foldr (fun x n=>f x + n) 0
theorem sumL_cons {α:Type} (f:α→Nat) (x:α) (l:List α):sumL f (x :: l)=f x + sumL f l:=rfl
theorem sumL_add {α:Type} (f g:α→Nat) (l:List α):sumL (fun x=>f x + g x) l=sumL f l + sumL g l:=by
 induction l with
 | nil=>rfl
 | cons x l ih=>rw [sumL_cons,sumL_cons,sumL_cons,ih]; omega
theorem sumL_le {α:Type} {f g:α→Nat} {l:List α} (h:∀ x∈l,f x≤g x):sumL f l≤sumL g l:=by
 induction l with
 | nil=>exact Nat.le_refl _
 | cons x l ih=>
  rw [sumL_cons,sumL_cons]
  have:=h x (List.mem_cons_self ..)
  have:=ih fun y hy=>h y (List.mem_cons_of_mem _ hy)
  omega
theorem sumL_mul {α:Type} (k:Nat) (f:α→Nat) (l:List α):sumL (fun x=>k * f x) l=k * sumL f l:=by
 induction l with
 | nil=>rfl
 | cons x l ih=>rw [sumL_cons,sumL_cons,ih,Nat.mul_add]
theorem sumL_if {α:Type} (p:α→Bool) (f:α→Nat) (l:List α):sumL (fun x=>if p x=true then f x else 0) l=sumL f (l.filter p):=by
 induction l with
 | nil=>rfl
 | cons x l ih=>
  rw [sumL_cons,ih,List.filter_cons]
  cases p x
  ·simp
  ·simp [sumL_cons]
theorem sumL_const {α:Type} (k:Nat) (l:List α):sumL (fun _=>k) l=l.length * k:=by
 induction l with
 | nil=>simp [sumL]
 | cons x l ih=>rw [sumL_cons,ih,List.length_cons,Nat.succ_mul]; omega
theorem flt_len (c:List Cell):(flt c).length=sumL (fun x=>x.2.length) c:=by
 induction c with
 | nil=>rfl
 | cons x c ih=>rw [flt_cons,List.length_append,List.length_map,ih,sumL_cons]
theorem lk_len_cons (x:Cell) (d:List Cell) (v:Int):(lk (x :: d) v).length=(if inR v x.1=true then x.2.length else 0) + (lk d v).length:=by
 rw [lk_cons,List.length_append]
 cases inR v x.1 <;> simp
theorem sum_lk {M:Nat} (vs:List Int):∀ (d:List Cell),(∀ x∈d,(vs.filter (inR · x.1)).length≤M)→sumL (fun v=>(lk d v).length) vs≤M * (flt d).length
 | [],_=>by
  have:sumL (fun v=>(lk ([]:List Cell) v).length) vs=0:=by
   rw [show (fun v:Int=>(lk ([]:List Cell) v).length)=fun _=>0 from rfl,sumL_const]; simp
  omega
 | x :: d,h=>by
  have e:(fun v=>(lk (x :: d) v).length)=fun v=>(if inR v x.1=true then x.2.length else 0) + (lk d v).length:=funext fun v=>lk_len_cons x d v
  have ih:=sum_lk vs d fun y hy=>h y (List.mem_cons_of_mem _ hy)
  have hx:=h x (List.mem_cons_self ..)
  rw [e,sumL_add,sumL_if (fun v=>inR v x.1),sumL_const,flt_cons,List.length_append,List.length_map,Nat.mul_add]
  have:=Nat.mul_le_mul_right x.2.length hx
  omega
theorem sum_lk2 (vs:List Int) (d':List Cell):∀ (d:List Cell),(∀ x∈d,∀ y∈d',((vs.filter (inR · x.1)).filter (inR · y.1)).length≤1)→sumL (fun v=>(lk d v).length * (lk d' v).length) vs≤(flt d).length * (flt d').length
 | [],_=>by
  have:sumL (fun v=>(lk ([]:List Cell) v).length * (lk d' v).length) vs=0:=by
   rw [show (fun v:Int=>(lk ([]:List Cell) v).length * (lk d' v).length)=fun v=>0 * (lk d' v).length from rfl,sumL_mul]; simp
  omega
 | x :: d,h=>by
  have e:(fun v=>(lk (x :: d) v).length * (lk d' v).length)=fun v=>(if inR v x.1=true then x.2.length * (lk d' v).length else 0) + (lk d v).length * (lk d' v).length:=funext fun v=>by
   rw [lk_len_cons,Nat.add_mul]
   cases inR v x.1 <;> simp
  have ih:=sum_lk2 vs d' d fun y hy=>h y (List.mem_cons_of_mem _ hy)
  have h1:=sum_lk (M:=1) (vs.filter (inR · x.1)) d' fun y hy=>h x (List.mem_cons_self ..) y hy
  rw [e,sumL_add,sumL_if (fun v=>inR v x.1) (fun v=>x.2.length * (lk d' v).length),sumL_mul,flt_cons,List.length_append,List.length_map,Nat.add_mul]
  have:=Nat.mul_le_mul_left x.2.length h1
  rw [Nat.one_mul] at this
  omega
theorem asc_nodup {l:List Int} (h:l.Pairwise (·<·)):l.Nodup:=h.imp fun h=>by omega
def ends2 (c:List Cell):List Int:=c.flatMap fun x=>[x.1.Lo,x.1.Hi + 1]
theorem ends2_len (c:List Cell):(ends2 c).length=2 * c.length:=by
 induction c with
 | nil=>rfl
 | cons x c ih=>unfold ends2 at *; rw [List.flatMap_cons,List.length_append,ih]; simp; omega
theorem ends2_in {t:Int} {c:List Cell} (h:Ord t c) {x:Cell} (hx:x∈c) {v:Int} (hv:v∈ends2 c) (hr:inR v x.1=true):v=x.1.Lo:=by
 rw [inR_iff] at hr
 obtain ⟨y,hy,hvy⟩:=List.mem_flatMap.1 hv
 have hxo:=h.ok x hx
 have hyo:=h.ok y hy
 obtain ⟨i,hi,rfl⟩:=List.getElem_of_mem hx
 obtain ⟨j,hj,rfl⟩:=List.getElem_of_mem hy
 have hp:=List.pairwise_iff_getElem.1 h.pw
 simp only [List.mem_cons,List.not_mem_nil,or_false] at hvy
 rcases Nat.lt_trichotomy i j with h1 | h1 | h1
 ·have:=(hp i j hi hj h1).1
  omega
 ·subst h1; omega
 ·have:=(hp j i hj hi h1).1
  omega
theorem lk_prev {t:Int} {c:List Cell} (h:Ord t c) {v:Int} (hv:¬ v∈ends2 c):lk c v=lk c (v - 1):=by
 have key:∀ x∈c,x.1.Lo ≠ v∧x.1.Hi + 1 ≠ v:=fun x hx=>⟨fun e=>hv (List.mem_flatMap.2 ⟨x,hx,by simp [e]⟩),fun e=>hv (List.mem_flatMap.2 ⟨x,hx,by simp [e]⟩)⟩
 clear h hv
 induction c with
 | nil=>rfl
 | cons x c ih=>
  rw [lk_cons,lk_cons,ih fun y hy=>key y (List.mem_cons_of_mem _ hy)]
  have:=key x (List.mem_cons_self ..)
  have e:inR v x.1=inR (v - 1) x.1:=by rw [Bool.eq_iff_iff,inR_iff,inR_iff]; omega
  rw [e]
theorem size_bound {op:Bool→Bool→Bool} (hff:op false false=false):∀ (ts:List Int) {a b l:List RL},CF ts a→CF ts b→Is op ts a b l→l.length≤4 * ts.length * (a.length * b.length) + a.length + b.length
 | [],a,b,l,ha,hb,h=>by
  have hm:=h.mem [] trivial
  rcases ha with rfl | rfl <;> rcases hb with rfl | rfl <;> rcases h.cf with rfl | rfl <;> simp [mS,mB,hff] at hm ⊢
 | t :: ts,a,b,l,ha,hb,h=>by
  obtain ⟨ca,rfl,hao,hac⟩:=ha
  obtain ⟨cb,rfl,hbo,hbc⟩:=hb
  obtain ⟨c,rfl,ho,hc⟩:=h.cf
  have hat:∀ v,0≤v→v≤t→Is op ts (lk ca v) (lk cb v) (lk c v):=fun v h0 h1=>by
   have:=Is.at_ ho hc h h0 h1
   rw [atv_flt,atv_flt] at this
   exact this
  have hvs:(c.map (·.1.Lo)).Pairwise (·<·):=by
   rw [List.pairwise_map]
   refine List.Pairwise.imp_of_mem ?_ ho.pw
   intro x y hx _ hg
   have:=ho.ok x hx
   have:=hg.1
   omega
  have hin:∀ v∈c.map (·.1.Lo),v∈ends2 ca∨v∈ends2 cb:=by
   intro v hv
   obtain ⟨x,hx,rfl⟩:=List.mem_map.1 hv
   have hxo:=ho.ok x hx
   apply Classical.byContradiction
   intro hn
   have h1:¬ x.1.Lo∈ends2 ca:=fun h=>hn (Or.inl h)
   have h2:¬ x.1.Lo∈ends2 cb:=fun h=>hn (Or.inr h)
   have e1:=lk_prev hao h1
   have e2:=lk_prev hbo h2
   have hx1:lk c x.1.Lo=x.2:=lk_mem ho hx (Int.le_refl _) hxo.2.1
   have g1:=hat x.1.Lo hxo.1 (by omega)
   by_cases h0:x.1.Lo=0
   ·rw [e1,e2,lk_out hao (by omega),lk_out hbo (by omega)] at g1
    have:lk c x.1.Lo=[]:=g1.inj ⟨CF_nil _,fun p _=>by rw [mS_nil,hff]⟩
    rw [hx1] at this
    exact hxo.2.2.2 this
   ·have g2:=hat (x.1.Lo - 1) (by omega) (by omega)
    rw [e1,e2] at g1
    have e3:=g1.inj g2
    rw [hx1] at e3
    obtain ⟨y,hy,h3,h4⟩:=lk_some (c:=c) (v:=x.1.Lo - 1) (by rw [← e3]; exact hxo.2.2.2)
    rw [lk_mem ho hy h3 h4] at e3
    obtain ⟨i,hi,rfl⟩:=List.getElem_of_mem hx
    obtain ⟨j,hj,rfl⟩:=List.getElem_of_mem hy
    have hp:=List.pairwise_iff_getElem.1 ho.pw
    rcases Nat.lt_trichotomy i j with h5 | h5 | h5
    ·have:=(hp i j hi hj h5).1; omega
    ·subst h5; omega
    ·have hg:=hp j i hj hi h5
     have:=hg.1
     exact hg.2 (by omega) e3.symm
  generalize hV:c.map (·.1.Lo)=vs at hvs hin
  have cnt:∀ {d d':List Cell},Ord t d→(∀ v∈vs,v∈ends2 d∨v∈ends2 d')→∀ x∈d,(vs.filter (inR · x.1)).length≤2 * d'.length + 1:=by
   intro d d' hd hdv x hx
   have hs:(vs.filter (inR · x.1)) ⊆ x.1.Lo :: ends2 d':=by
    intro v hv
    obtain ⟨h1,h2⟩:=List.mem_filter.1 hv
    rcases hdv v h1 with h3 | h3
    ·rw [ends2_in hd hx h3 h2]; exact List.mem_cons_self ..
    ·exact List.mem_cons_of_mem _ h3
   have:=List.Nodup.length_le_of_subset (asc_nodup (hvs.filter _)) hs
   rw [List.length_cons,ends2_len] at this
   exact this
  have s1:=sum_lk vs ca (cnt hao hin)
  have s2:=sum_lk vs cb (cnt hbo fun v hv=>(hin v hv).symm)
  have s3:=sum_lk2 vs cb ca (fun x hx y hy=>by
   have hs:((vs.filter (inR · x.1)).filter (inR · y.1)) ⊆ [max x.1.Lo y.1.Lo]:=by
    intro v hv
    obtain ⟨h1,h2⟩:=List.mem_filter.1 hv
    obtain ⟨h3,h4⟩:=List.mem_filter.1 h1
    have h2':=inR_iff.1 h2
    have h4':=inR_iff.1 h4
    rw [List.mem_singleton]
    rcases hin v h3 with h5 | h5
    ·have:=ends2_in hao hx h5 h4; omega
    ·have:=ends2_in hbo hy h5 h2; omega
   have:=List.Nodup.length_le_of_subset (asc_nodup ((hvs.filter _).filter _)) hs
   simpa using this)
  have total:(flt c).length≤sumL (fun v=>4 * ts.length * ((lk ca v).length * (lk cb v).length) + (lk ca v).length + (lk cb v).length) vs:=by
   rw [flt_len,← hV]
   have e:∀ (d:List Cell) (f:Int→Nat),sumL f (d.map (·.1.Lo))=sumL (fun x=>f x.1.Lo) d:=by
    intro d f
    induction d with
    | nil=>rfl
    | cons x d ih=>rw [List.map_cons,sumL_cons,sumL_cons,ih]
   rw [e]
   refine sumL_le fun x hx=>?_
   have hxo:=ho.ok x hx
   have g1:=hat x.1.Lo hxo.1 (by omega)
   rw [lk_mem ho hx (Int.le_refl _) hxo.2.1] at g1
   exact size_bound hff ts (CF_lk hao hac _) (CF_lk hbo hbc _) g1
  rw [sumL_add,sumL_add,sumL_mul] at total
  have la:=hao.len
  have lb:=hbo.len
  have m3:=Nat.mul_le_mul_left (4 * ts.length) s3
  have n1:(2 * cb.length + 1) * (flt ca).length≤(2 * (flt cb).length + 1) * (flt ca).length:=Nat.mul_le_mul_right _ (by omega)
  have n2:(2 * ca.length + 1) * (flt cb).length≤(2 * (flt ca).length + 1) * (flt cb).length:=Nat.mul_le_mul_right _ (by omega)
  rw [Nat.add_mul,Nat.one_mul] at n1 n2
  have c1:2 * (flt cb).length * (flt ca).length=2 * ((flt ca).length * (flt cb).length):=by rw [Nat.mul_assoc,Nat.mul_comm (flt cb).length]
  have c2:2 * (flt ca).length * (flt cb).length=2 * ((flt ca).length * (flt cb).length):=by rw [Nat.mul_assoc]
  have n1':(2 * cb.length + 1) * (flt ca).length≤(2 * (flt cb).length) * (flt ca).length + (flt ca).length:=by
   have:=Nat.mul_le_mul_right (flt ca).length (show 2 * cb.length + 1≤2 * (flt cb).length + 1 by omega)
   rw [Nat.add_mul (2 * (flt cb).length),Nat.one_mul] at this
   exact this
  have n2':(2 * ca.length + 1) * (flt cb).length≤(2 * (flt ca).length) * (flt cb).length + (flt cb).length:=by
   have:=Nat.mul_le_mul_right (flt cb).length (show 2 * ca.length + 1≤2 * (flt ca).length + 1 by omega)
   rw [Nat.add_mul (2 * (flt ca).length),Nat.one_mul] at this
   exact this
  rw [c1] at n1'
  rw [c2] at n2'
  have fin:4 * (t :: ts).length * ((flt ca).length * (flt cb).length)=4 * ts.length * ((flt ca).length * (flt cb).length) + 4 * ((flt ca).length * (flt cb).length):=by
   rw [List.length_cons,Nat.mul_add,Nat.add_mul]
  omega
theorem Can.size {op:Bool→Bool→Bool} (hff:op false false=false) {a b l:List Bx} (ha:CFb a) (hb:CFb b) (h:Can op a b l):l.length≤20 * (a.length * b.length) + a.length + b.length:=by
 have:=size_bound hff tops5 ha hb h.is
 rw [List.length_map,List.length_map,List.length_map] at this
 exact this
theorem Can.size2 {op:Bool→Bool→Bool} (hff:op false false=false) {a b l:List Bx} (ha:CFb a) (hb:CFb b) (h:Can op a b l) (h1:a.length≤4096) (h2:b.length≤4096):l.length≤2000000000:=by
 have:=h.size hff ha hb
 have:=Nat.mul_le_mul h1 h2
 omega
end Go.AM
set_option maxRecDepth 100000
namespace Go.AM
open Go
noncomputable def can (op:Bool→Bool→Bool) (a b:List Bx):List Bx:=(Can.ex op a b).choose
theorem can_spec (op:Bool→Bool→Bool) (a b:List Bx):Can op a b (can op a b):=(Can.ex op a b).choose_spec
theorem Can.eq {op:Bool→Bool→Bool} {a b l:List Bx} (h:Can op a b l):can op a b=l:=(can_spec op a b).inj h
def oO (x y:Bool):Bool:=x || y
def oA (x y:Bool):Bool:=x && y
def oW (x y:Bool):Bool:=x && !y
theorem opc0:opc 0=oO:=funext fun x=>funext fun y=>rfl
theorem opc2:opc 2=oW:=funext fun x=>funext fun y=>rfl
theorem CF_single:∀ (ts:List Int) {b:RL},vR ts b→CF ts [b]
 | [],b,h=>by
  cases b with
  | nil=>exact .inr rfl
  | cons _ _=>exact h.elim
 | t :: ts,b,h=>by
  cases b with
  | nil=>exact h.elim
  | cons r b=>
   obtain ⟨h0,h1,h2,h3⟩:=h
   refine ⟨[(r,[b])],rfl,⟨List.pairwise_singleton ..,fun x hx=>?_⟩,fun x hx=>?_⟩
   ·rw [List.mem_singleton] at hx; subst hx; exact ⟨h0,h1,h2,List.cons_ne_nil _ _⟩
   ·rw [List.mem_singleton] at hx; subst hx; exact CF_single ts h3
theorem ok_vR {b:Bx} (h:BOk b):vR tops5 (toL b):=
 ⟨h.h0.h0,h.h0.h1,h.h0.h2,h.h1.h0,h.h1.h1,h.h1.h2,h.h2.h0,h.h2.h1,h.h2.h2,h.h3.h0,h.h3.h1,h.h3.h2,h.h4.h0,h.h4.h1,h.h4.h2,trivial⟩
theorem CFb.single {b:Bx} (h:BOk b):CFb [b]:=CF_single tops5 (ok_vR h)
noncomputable def mkF:List Bx→List Bx→List Bx × Int
 | s,[]=>(s,0)
 | s,b :: l=>if (can oO s [b]).length≤4096 then mkF (can oO s [b]) l else ([],3)
noncomputable def mk (l:List Bx):List Bx × Int:=mkF [] (l.filter vB)
theorem combO {a b:List Bx} (hl:a.length + b.length≤400000) (ha:∀ x∈a,BOk x) (hb:∀ x∈b,BOk x):Za3 a b=some (capB (can oO a b)):=combine_either hl ha hb (can_spec oO a b)
theorem pMake_L (r:List Bx) (hr:r.length≤1000000) (hok:∀ x∈r,BOk x):∀ (K i n:Nat) (s:List Bx),r.length - i=K→K<n→VS s→i≤r.length→∃ o,Zcn r n s (i:Int)=some o∧mkF s (r.drop i)=match o with
   | .inl v=>(v,0)
   | .inr z=>z:=by
 intro K
 induction K with
 | zero=>
  intro i n s hK hn hs hi
  cases n with
  | zero=>omega
  | succ n=>
  rw [Zcn,if_neg (by simp; omega),List.drop_eq_nil_of_le (by omega)]
  exact ⟨_,rfl,rfl⟩
 | succ K ih=>
  intro i n s hK hn hs hi
  cases n with
  | zero=>omega
  | succ n=>
  have hil:i<r.length:=by omega
  have hb:=hok _ (List.getElem_mem hil)
  have hsl:=hs.len
  rw [Zcn,if_pos (by simp; omega),idx_get hil]
  simp only [Option.bind_some]
  rw [combO (by simp; omega) hs.ok (fun x hx=>by rw [List.mem_singleton] at hx; rw [hx]; exact hb)]
  rw [List.drop_eq_getElem_cons hil]
  simp only [Option.bind_some,capB,mkF]
  by_cases h:(can oO s [r[i]]).length≤4096
  ·rw [if_pos h,if_pos h]
   simp only [bne_self_eq_false,Bool.false_eq_true,if_false]
   rw [wsucc (by omega)]
   exact ih (i + 1) n _ (by omega) (by omega) (VS.of (can_spec oO s [r[i]]).cf h) (by omega)
  ·rw [if_neg h,if_neg h]
   exact ⟨_,rfl,rfl⟩
theorem VS.nil:VS []:=⟨by simp,fun _ h=>(by cases h),CFb.nil⟩
theorem pMake_eq {l:List Bx} (hl:l.length≤1000000) (hin:∀ x∈l,BIn x):Zdw l=some (mk l):=by
 unfold Zdw
 rw [pvalid_eq (by omega)]
 simp only [Option.bind_some]
 have hfl:=List.length_filter_le vB l
 obtain ⟨o,e,g⟩:=pMake_L (l.filter vB) (by omega) (fun x hx=>by
  obtain ⟨h1,h2⟩:=List.mem_filter.1 hx
  exact vB_ok (hin x h1) h2) _ 0 fuel [] rfl (by unfold fuel; omega) VS.nil (by omega)
 rw [show ((0:Nat):Int)=0 from rfl] at e
 rw [e]
 rw [List.drop_zero] at g
 unfold mk
 rw [g]
 cases o <;> rfl
theorem rMake_L (r:List Bx) (hr:r.length≤300000) (hin:∀ x∈r,BIn x):∀ (K i n:Nat) (s:List Bx),r.length - i=K→K<n→VS s→i≤r.length→∃ o,Zc0 r n s (i:Int)=some o∧mkF s ((r.drop i).filter vB)=match o with
   | .inl v=>(v,0)
   | .inr z=>z:=by
 intro K
 induction K with
 | zero=>
  intro i n s hK hn hs hi
  cases n with
  | zero=>omega
  | succ n=>
  rw [Zc0,if_neg (by simp; omega),List.drop_eq_nil_of_le (by omega)]
  exact ⟨_,rfl,rfl⟩
 | succ K ih=>
  intro i n s hK hn hs hi
  cases n with
  | zero=>omega
  | succ n=>
  have hil:i<r.length:=by omega
  have hsl:=hs.len
  have hpart:List.drop i (List.take (i + 1) r)=[r[i]]:=by
   rw [List.drop_take,show i + 1 - i=1 by omega,List.drop_eq_getElem_cons hil]
   rfl
  rw [Zc0,if_pos (by simp; omega),idx_get hil]
  simp only [Option.bind_some,rValid_eq]
  rw [wsucc (by omega),List.drop_eq_getElem_cons hil,List.filter_cons]
  simp only [Int.toNat_natCast,hpart]
  by_cases hv:vB r[i]=true
  ·have hb:BOk r[i]:=vB_ok (hin _ (List.getElem_mem hil)) hv
   rw [hv]
   simp only [Bool.not_true,Bool.false_eq_true,if_false,if_true]
   rw [if_pos ⟨by omega,by omega,by omega⟩]
   have hC:=can_spec oO s [r[i]]
   rw [rests_top (k:=0) (by simp; omega) hs.ok (fun x hx=>by rw [List.mem_singleton] at hx; rw [hx]; exact hb) (by rw [opc0]; exact hC) (hC.size2 rfl hs.cf (CFb.single hb) hs.len (by simp))]
   simp only [Option.bind_some,limited_eq,capB,mkF]
   by_cases h:(can oO s [r[i]]).length≤4096
   ·rw [if_pos h,if_pos h]
    simp only [bne_self_eq_false,Bool.false_eq_true,if_false,Option.bind_some]
    exact ih (i + 1) n _ (by omega) (by omega) (VS.of (can_spec oO s [r[i]]).cf h) (by omega)
   ·rw [if_neg h,if_neg h]
    exact ⟨_,rfl,rfl⟩
  ·rw [Bool.not_eq_true] at hv
   rw [hv]
   simp only [Bool.not_false,if_true,Option.bind_some,Bool.false_eq_true,if_false]
   exact ih (i + 1) n _ (by omega) (by omega) hs (by omega)
theorem rMake_eq {l:List Bx} (hl:l.length≤300000) (hin:∀ x∈l,BIn x):Zfi l=some (mk l):=by
 unfold Zfi
 obtain ⟨o,e,g⟩:=rMake_L l hl hin _ 0 fuel [] rfl (by unfold fuel; omega) VS.nil (by omega)
 rw [show ((0:Nat):Int)=0 from rfl] at e
 rw [e]
 rw [List.drop_zero] at g
 unfold mk
 rw [g]
 cases o <;> rfl
noncomputable def vSb (l:List Bx):Bool:=@decide (VS l) (Classical.propDecidable _)
theorem vSb_iff {l:List Bx}:vSb l=true ↔ VS l:=by unfold vSb; exact @decide_eq_true_iff _ (Classical.propDecidable _)
theorem bool_of {r:Bool} {p:Prop} {q:Bool} (h1:r=true ↔ p) (h2:q=true ↔ p):r=q:=by
 rw [Bool.eq_iff_iff,h1,h2]
theorem pVal {l:List Bx} (hl:l.length≤300000) (hin:∀ x∈l,BIn x):Zc2 l=some (vSb l):=by
 obtain ⟨r,e,g⟩:=pValid_eq (by omega) hin
 rw [e,bool_of g vSb_iff]
noncomputable def st (l:List Bx):List Bx × Int:=if vSb l=true then (l,0) else mk l
theorem pset_eq {l:List Bx} (hl:l.length≤300000) (hin:∀ x∈l,BIn x):Zb8 l=some (st l):=by
 unfold Zb8 st
 rw [pVal hl hin]
 simp only [Option.bind_some]
 split
 ·rfl
 ·rw [pMake_eq (by omega) hin]; rfl
theorem mem_app (a b:List Bx) (p:List Int):mem (a++b) p=(mem a p || mem b p):=by unfold mem; rw [List.map_append,mS_app]
structure SetOr (r:List Bx × Int):Prop where
 vs:VS r.1
 err:r.2=0∨r=([],3)
theorem mkF_ok:∀ (l s:List Bx),VS s→SetOr (mkF s l)∧((mkF s l).2=0→∀ p,vP tops5 p→mem (mkF s l).1 p=(mem s p || mem l p))
 | [],s,hs=>⟨⟨hs,Or.inl rfl⟩,fun _ p _=>by rw [mem_nil,Bool.or_false]; rfl⟩
 | b :: l,s,hs=>by
  simp only [mkF]
  by_cases h:(can oO s [b]).length≤4096
  ·rw [if_pos h]
   have hC:=can_spec oO s [b]
   obtain ⟨g1,g2⟩:=mkF_ok l (can oO s [b]) (VS.of hC.cf h)
   refine ⟨g1,fun h0 p hp=>?_⟩
   rw [g2 h0 p hp,hC.mem p hp,show b :: l=[b]++l from rfl,mem_app [b] l,oO,Bool.or_assoc]
  ·rw [if_neg h]
   exact ⟨⟨VS.nil,Or.inr rfl⟩,fun h=>by cases h⟩
theorem st_ok (l:List Bx):SetOr (st l)∧((st l).2=0→∀ p,vP tops5 p→mem (st l).1 p=mem (l.filter vB) p):=by
 unfold st
 by_cases h:vSb l=true
 ·rw [if_pos h]
  have hv:=vSb_iff.1 h
  refine ⟨⟨hv,Or.inl rfl⟩,fun _ p _=>?_⟩
  rw [List.filter_eq_self.2 fun x hx=>ok_vB (hv.ok x hx)]
 ·rw [if_neg h]
  obtain ⟨g1,g2⟩:=mkF_ok (l.filter vB) [] VS.nil
  exact ⟨g1,fun h0 p hp=>by unfold mk; rw [g2 h0 p hp,mem_nil,Bool.false_or]⟩
theorem st_self {l:List Bx} (h:VS l):st l=(l,0):=by unfold st; rw [if_pos (vSb_iff.2 h)]
noncomputable def cmb (op:Bool→Bool→Bool) (a b:List Bx):List Bx × Int:=
 if (st a).2 ≠ 0 then ([],(st a).2) else if (st b).2 ≠ 0 then ([],(st b).2) else capB (can op (st a).1 (st b).1)
theorem capB_ok {op:Bool→Bool→Bool} {a b:List Bx}:SetOr (capB (can op a b)):=by
 unfold capB
 by_cases h:(can op a b).length≤4096
 ·rw [if_pos h]; exact ⟨VS.of (can_spec op a b).cf h,Or.inl rfl⟩
 ·rw [if_neg h]; exact ⟨VS.nil,Or.inr rfl⟩
theorem SetOr.three {r:List Bx × Int} (h:SetOr r) (hr:r.2 ≠ 0):r=([],3):=h.err.resolve_left hr
theorem cmb_ok (op:Bool→Bool→Bool) (a b:List Bx):SetOr (cmb op a b)∧((cmb op a b).2=0→∀ p,vP tops5 p→mem (cmb op a b).1 p=op (mem (a.filter vB) p) (mem (b.filter vB) p)):=by
 have ha:=st_ok a
 have hb:=st_ok b
 unfold cmb
 by_cases h1:(st a).2 ≠ 0
 ·rw [if_pos h1,ha.1.three h1]; exact ⟨⟨VS.nil,Or.inr rfl⟩,fun h=>by cases h⟩
 ·rw [if_neg h1]
  by_cases h2:(st b).2 ≠ 0
  ·rw [if_pos h2,hb.1.three h2]; exact ⟨⟨VS.nil,Or.inr rfl⟩,fun h=>by cases h⟩
  ·rw [if_neg h2]
   refine ⟨capB_ok,fun h0 p hp=>?_⟩
   have hc:=can_spec op (st a).1 (st b).1
   unfold capB at h0 ⊢
   split at h0
   ·rename_i h
    rw [if_pos h]
    show mem (can op (st a).1 (st b).1) p=_
    rw [hc.mem p hp,ha.2 (by simpa using h1) p hp,hb.2 (by simpa using h2) p hp]
   ·cases h0
theorem pUnion_eq {a b:List Bx} (ha:a.length≤300000) (hb:b.length≤300000) (hai:∀ x∈a,BIn x) (hbi:∀ x∈b,BIn x):Zek a b=some (cmb oO a b):=by
 have sa:=(st_ok a).1.vs
 have sb:=(st_ok b).1.vs
 have la:=sa.len
 have lb:=sb.len
 unfold Zek Zdl cmb
 rw [pset_eq ha hai]
 simp only [Option.bind_some,bne_iff_ne]
 split
 ·rfl
 ·rw [pset_eq hb hbi]
  simp only [Option.bind_some]
  split
  ·rfl
  ·rw [combO (by omega) sa.ok sb.ok]
   rfl
theorem pIntersect_eq {a b:List Bx} (ha:a.length≤300000) (hb:b.length≤300000) (hai:∀ x∈a,BIn x) (hbi:∀ x∈b,BIn x):Zdd a b=some (cmb oA a b):=by
 have sa:=(st_ok a).1.vs
 have sb:=(st_ok b).1.vs
 have la:=sa.len
 have lb:=sb.len
 unfold Zdd Zdz cmb
 rw [pset_eq ha hai]
 simp only [Option.bind_some,bne_iff_ne]
 split
 ·rfl
 ·rw [pset_eq hb hbi]
  simp only [Option.bind_some]
  split
  ·rfl
  ·rw [combine_both (by omega) sa.ok sb.ok (can_spec oA _ _)]
   rfl
theorem pSubtract_eq {a b:List Bx} (ha:a.length≤300000) (hb:b.length≤300000) (hai:∀ x∈a,BIn x) (hbi:∀ x∈b,BIn x):Zdk a b=some (cmb oW a b):=by
 have sa:=(st_ok a).1.vs
 have sb:=(st_ok b).1.vs
 have la:=sa.len
 have lb:=sb.len
 unfold Zdk Zdf cmb
 rw [pset_eq ha hai]
 simp only [Option.bind_some,bne_iff_ne]
 split
 ·rfl
 ·rw [pset_eq hb hbi]
  simp only [Option.bind_some]
  split
  ·rfl
  ·rw [combine_without (by omega) sa.ok sb.ok (can_spec oW _ _)]
   rfl
end Go.AM
set_option maxRecDepth 100000
namespace Go.AM
open Go
end Go.AM
set_option maxRecDepth 100000
namespace Go.AM
open Go
structure InL (l:List Bx):Prop where
 len:l.length≤300000
 bin:∀ x∈l,BIn x
theorem VS.inL {l:List Bx} (h:VS l):InL l:=⟨by have:=h.len; omega,fun x hx=>(h.ok x hx).bin⟩
theorem InL.one {b:Bx} (h:BIn b):InL [b]:=⟨by simp,fun x hx=>by rw [List.mem_singleton] at hx; rw [hx]; exact h⟩
def kp (e:Bool) (r:List Bx × Int):List Bx × Bool:=if e=true∨r.2 ≠ 0 then ([],true) else (r.1,false)
def le (e:Bool):rewrite_ledger:=⟨if e=true then 3 else 0⟩
noncomputable def uU (e:Bool) (a b:List Bx):=kp e (cmb oO a b)
noncomputable def uI (e:Bool) (a b:List Bx):=kp e (cmb oA a b)
noncomputable def uS (e:Bool) (a b:List Bx):=kp e (cmb oW a b)
theorem kp_vs {e:Bool} {r:List Bx × Int} (h:SetOr r):VS (kp e r).1∧((kp e r).2=true→(kp e r).1=[]):=by
 unfold kp
 split
 ·exact ⟨VS.nil,fun _=>rfl⟩
 ·exact ⟨h.vs,fun h=>by cases h⟩
theorem keep_eq {e:Bool} {r:List Bx × Int} (h:SetOr r):Zbr (le e) r.1 r.2=some ((kp e r).1,le (kp e r).2):=by
 unfold Zbr kp le
 cases e with
 | true=>simp
 | false=>
  by_cases h0:r.2=0
  ·simp [h0]
  ·rw [h.three h0]; simp
theorem lU_eq {e:Bool} {a b:List Bx} (ha:InL a) (hb:InL b):Zbn (le e) a b=some ((uU e a b).1,le (uU e a b).2):=by
 unfold Zbn uU
 rw [pUnion_eq ha.len hb.len ha.bin hb.bin]
 simp only [Option.bind_some]
 rw [keep_eq (cmb_ok _ _ _).1]; rfl
theorem lI_eq {e:Bool} {a b:List Bx} (ha:InL a) (hb:InL b):Zap (le e) a b=some ((uI e a b).1,le (uI e a b).2):=by
 unfold Zap uI
 rw [pIntersect_eq ha.len hb.len ha.bin hb.bin]
 simp only [Option.bind_some]
 rw [keep_eq (cmb_ok _ _ _).1]; rfl
theorem lS_eq {e:Bool} {a b:List Bx} (ha:InL a) (hb:InL b):Zb3 (le e) a b=some ((uS e a b).1,le (uS e a b).2):=by
 unfold Zb3 uS
 rw [pSubtract_eq ha.len hb.len ha.bin hb.bin]
 simp only [Option.bind_some]
 rw [keep_eq (cmb_ok _ _ _).1]; rfl
theorem uU_vs (e:Bool) (a b:List Bx):VS (uU e a b).1∧((uU e a b).2=true→(uU e a b).1=[]):=kp_vs (cmb_ok _ _ _).1
theorem uI_vs (e:Bool) (a b:List Bx):VS (uI e a b).1∧((uI e a b).2=true→(uI e a b).1=[]):=kp_vs (cmb_ok _ _ _).1
theorem uS_vs (e:Bool) (a b:List Bx):VS (uS e a b).1∧((uS e a b).2=true→(uS e a b).1=[]):=kp_vs (cmb_ok _ _ _).1
theorem make_eq {s:List Bx} (hs:InL s):Zcq Zcr s=some ((kp false (st s)).1,le (kp false (st s)).2):=by
 unfold Zcq
 rw [pVal hs.len hs.bin]
 simp only [Option.bind_some]
 by_cases h:vSb s=true
 ·rw [if_pos h,st_self (vSb_iff.1 h)]; rfl
 ·rw [if_neg h,pMake_eq (by have:=hs.len; omega) hs.bin]
  have e:st s=mk s:=by unfold st; rw [if_neg h]
  have ho:SetOr (mk s):=e ▸ (st_ok s).1
  simp only [Option.bind_some]
  rw [show Zcr=le false from rfl,keep_eq ho,e]
  rfl
def badB:Bx:=⟨⟨1,0⟩,Zi,Zi,Zi,Zi⟩
def frm (m:api_Move):Bx:=if vM m=true then m.From else badB
theorem vB_bad:vB badB=false:=by decide
theorem vM_from {m:api_Move} (h:vM m=true):vB m.From=true∧vB m.To=true:=by
 unfold vM at h
 simp only [Bool.and_eq_true] at h
 exact h.1
theorem frm_v (m:api_Move):vB (frm m)=vM m:=by
 unfold frm
 by_cases h:vM m=true
 ·rw [if_pos h,h,(vM_from h).1]
 ·rw [if_neg h,vB_bad]; simpa using h
theorem from_eq {l:List api_Move} (hl:l.length≤100000):Zfj l=some (l.map frm):=by
 unfold Zfj
 have:=list_fold (L:=Zc1 l) l (fun s _ x=>s++[frm x]) id (fun i s=>s.length=i) (by omega) (fun n s i hi hs=>by
  rw [Zc1]
  simp only [show ((i:Int)<(l.length:Int)) from by omega,decide_true,if_true,idx_get hi,Option.bind_some,validMove_eq,wsucc (by omega:i<1000000000001),List.length_singleton]
  by_cases h:vM l[i]=true
  ·have e:frm l[i]=(l[i]).From:=by unfold frm; rw [if_pos h]
   rw [h,e]
   simp only [Bool.not_true,Bool.false_eq_true,if_false,Option.bind_some]
   rw [if_pos (show s.length + 1≤lim by unfold lim; omega)]
   exact ⟨rfl,by simp [hs]⟩
  ·have e:frm l[i]=badB:=by unfold frm; rw [if_neg h]
   rw [Bool.not_eq_true] at h
   rw [h,e]
   simp only [Bool.not_false,if_true,Option.bind_some]
   rw [if_pos (show s.length + 1≤lim by unfold lim; omega)]
   exact ⟨rfl,by simp [hs]⟩) (fun n s hs=>by rw [Zc1]; simp) [] rfl
 rw [this.1,foldI_map]
 rfl
abbrev PSt:=Bool × List (List Bx) × List Bx
noncomputable def pstepB (s:PSt) (b:Bx):PSt:=if vB b=true then ((uS (uI s.1 s.2.2 [b]).2 s.2.2 [b]).2,s.2.1++[(uI s.1 s.2.2 [b]).1],(uS (uI s.1 s.2.2 [b]).2 s.2.2 [b]).1) else (s.1,s.2.1++[[]],s.2.2)
theorem foldI_eq {α σ:Type} (f:σ→α→σ):∀ (l:List α) (s:σ) (i:Nat),foldI (fun s _ x=>f s x) s i l=l.foldl f s
 | [],_,_=>rfl
 | x :: l,s,i=>by simp only [foldI,List.foldl_cons]; exact foldI_eq f l _ _
noncomputable def partsR:Bool→List Bx→List Bx→List (List Bx) × List Bx × Bool
 | e,s,[]=>([],s,e)
 | e,s,b :: l=>if vB b=true then ((uI e s [b]).1 :: (partsR (uS (uI e s [b]).2 s [b]).2 (uS (uI e s [b]).2 s [b]).1 l).1,(partsR (uS (uI e s [b]).2 s [b]).2 (uS (uI e s [b]).2 s [b]).1 l).2) else ([] :: (partsR e s l).1,(partsR e s l).2)
theorem parts_fold:∀ (l:List Bx) (e:Bool) (out:List (List Bx)) (s:List Bx),l.foldl pstepB (e,out,s)=((partsR e s l).2.2,out++(partsR e s l).1,(partsR e s l).2.1)
 | [],e,out,s=>by simp [partsR]
 | b :: l,e,out,s=>by
  rw [List.foldl_cons]
  by_cases h:vB b=true
  ·rw [show pstepB (e,out,s) b=((uS (uI e s [b]).2 s [b]).2,out++[(uI e s [b]).1],(uS (uI e s [b]).2 s [b]).1) by unfold pstepB; rw [if_pos h],parts_fold l]
   simp only [partsR,if_pos h,List.append_assoc,List.singleton_append]
  ·rw [show pstepB (e,out,s) b=(e,out++[[]],s) by unfold pstepB; rw [if_neg h],parts_fold l]
   simp only [partsR,if_neg h,List.append_assoc,List.singleton_append]
theorem pstepB_vs {s:PSt} {b:Bx} (h:VS s.2.2):VS (pstepB s b).2.2∧(pstepB s b).2.1.length=s.2.1.length + 1:=by
 unfold pstepB
 split
 ·exact ⟨(uS_vs _ _ _).1,by simp⟩
 ·exact ⟨h,by simp⟩
theorem parts_eq {ms:List Bx} (hm:ms.length≤100000) (hin:∀ x∈ms,BIn x) {e:Bool} {s:List Bx} (hs:VS s):Zc7 (le e) ms s=some ((partsR e s ms).1,(partsR e s ms).2.1,le (partsR e s ms).2.2):=by
 unfold Zc7
 have:=list_fold (L:=fun n (s:PSt) i=>Zat ms n (le s.1) s.2.1 s.2.2 i) ms (fun s _ x=>pstepB s x) (fun s=>(le s.1,s.2.1,s.2.2)) (fun i s=>s.2.1.length=i∧VS s.2.2) (by omega) (fun n s i hi hs=>by
  show Zat ms (n + 1) (le s.1) s.2.1 s.2.2 (i:Int)=_∧_
  have hb:=hin _ (List.getElem_mem hi)
  have hp:=pstepB_vs (b:=ms[i]) hs.2
  refine ⟨?_,by rw [hp.2,hs.1],hp.1⟩
  rw [Zat]
  simp only [show ((i:Int)<(ms.length:Int)) from by omega,decide_true,if_true,idx_get hi,Option.bind_some,Valid_eq,wsucc (by omega:i<1000000000001),List.length_singleton]
  unfold pstepB
  by_cases h:vB ms[i]=true
  ·rw [if_pos h,h]
   simp only [Bool.not_true,Bool.false_eq_true,if_false]
   rw [lI_eq hs.2.inL (InL.one hb)]
   simp only [Option.bind_some]
   rw [if_pos (show s.2.1.length + 1≤lim by rw [hs.1]; unfold lim; omega),lS_eq hs.2.inL (InL.one hb)]
   rfl
  ·rw [if_neg h]
   rw [Bool.not_eq_true] at h
   rw [h]
   simp only [Bool.not_false,if_true]
   rw [if_pos (show s.2.1.length + 1≤lim by rw [hs.1]; unfold lim; omega)]
   rfl) (fun n s hs=>by
  show Zat ms (n + 1) (le s.1) s.2.1 s.2.2 (ms.length:Int)=_
  rw [Zat]; simp) (e,[],s) ⟨rfl,hs⟩
 have h1:=this.1
 simp only at h1
 rw [h1,foldI_eq pstepB,parts_fold]
 rfl
theorem parts_len:∀ (l:List Bx) (e:Bool) (s:List Bx),(partsR e s l).1.length=l.length
 | [],_,_=>rfl
 | b :: l,e,s=>by
  simp only [partsR]
  split
  ·simp only [List.length_cons]; rw [parts_len l]
  ·simp only [List.length_cons]; rw [parts_len l]
theorem parts_vs:∀ (l:List Bx) (e:Bool) (s:List Bx),VS s→(∀ x∈(partsR e s l).1,VS x)∧VS (partsR e s l).2.1
 | [],_,_,h=>⟨fun _ h=>(by cases h),h⟩
 | b :: l,e,s,h=>by
  simp only [partsR]
  split
  ·have ih:=parts_vs l (uS (uI e s [b]).2 s [b]).2 (uS (uI e s [b]).2 s [b]).1 (uS_vs _ _ _).1
   exact ⟨fun x hx=>(List.mem_cons.1 hx).elim (fun h=>h ▸ (uI_vs _ _ _).1) (ih.1 x),ih.2⟩
  ·have ih:=parts_vs l e s h
   exact ⟨fun x hx=>(List.mem_cons.1 hx).elim (fun h=>h ▸ VS.nil) (ih.1 x),ih.2⟩
def shM (m:api_Move) (s:List Bx):List Bx:=s.map fun b=>shB b m.From m.To
theorem shr_in (a f t:api_Range):RIn (shr a f t):=by
 have h1:=wu32_range (IntKind.wrap .u32 (a.Lo - f.Lo) + t.Lo)
 have h2:=wu32_range (IntKind.wrap .u32 (a.Hi - f.Lo) + t.Lo)
 exact ⟨h1.1,h1.2,h2.1,h2.2⟩
theorem shB_in (a f t:Bx):BIn (shB a f t):=⟨shr_in _ _ _,shr_in _ _ _,shr_in _ _ _,shr_in _ _ _,shr_in _ _ _⟩
theorem shM_in {m:api_Move} {s:List Bx} (h:s.length≤300000):InL (shM m s):=⟨by unfold shM; rw [List.length_map]; exact h,fun x hx=>by
 obtain ⟨y,_,rfl⟩:=List.mem_map.1 hx
 exact shB_in _ _ _⟩
theorem shifted2_eq {m:api_Move} {s v:List Bx} {i:Nat} (hi:i<v.length) (hs:i<s.length) (he:v[i]=s[i]):Zbj m s (i:Int) fuel v 0=some (v.set i (shB s[i] m.From m.To)):=by
 obtain ⟨n,hn⟩:∃ n,fuel=n + 6:=⟨fuel - 6,by unfold fuel; omega⟩
 rw [hn]
 have nx:∀ (k:Nat) (q:Nat) (x:Bx),k<5→Zbj m s (i:Int) (q + 1) (v.set i x) (k:Int)=Zbj m s (i:Int) q (v.set i (x.set (k:Int) (shr ((s[i]).get (k:Int)) (m.From.get (k:Int)) (m.To.get (k:Int))))) ((k + 1:Nat):Int):=by
  intro k q x hk
  have hl:i<(v.set i x).length:=by rw [List.length_set]; exact hi
  rw [Zbj,if_pos (by simp; omega),if_pos ⟨by omega,by omega⟩,if_pos ⟨by omega,by omega⟩,idx_get hs]
  simp only [Option.bind_some,Int.toNat_natCast]
  rw [if_pos ⟨by omega,by omega⟩,idx_get hl,List.getElem_set_self]
  simp only [Option.bind_some]
  rw [if_pos ⟨by omega,by omega⟩,if_pos ⟨by omega,by omega⟩,if_pos ⟨by omega,by omega⟩]
  rw [List.set_set,idx_get (by rw [List.length_set]; exact hi),List.getElem_set_self]
  simp only [Option.bind_some]
  rw [if_pos ⟨by omega,by omega⟩,List.set_set,wsucc (by omega)]
  congr 2
  have hg:∀ (x:Bx) (r:api_Range),(x.set (k:Int) r).get (k:Int)=r:=fun x r=>by rcases fiveN hk with rfl | rfl | rfl | rfl | rfl <;> rfl
  rw [hg,set_set]
  unfold shr
  rw [Int.add_comm (m.To.get (k:Int)).Lo,Int.add_comm (m.To.get (k:Int)).Lo]
 have first:v=v.set i s[i]:=by rw [← he]; exact (List.set_getElem_self hi).symm
 conv=>lhs; rw [first]
 rw [show (0:Int)=((0:Nat):Int) from rfl]
 rw [nx 0 _ _ (by omega),nx 1 _ _ (by omega),nx 2 _ _ (by omega),nx 3 _ _ (by omega),nx 4 _ _ (by omega),Zbj,if_neg (by decide)]
 rfl
theorem pshifted_eq {m:api_Move} {s:List Bx} (h:s.length≤300000):Zdo m s=some (shM m s):=by
 unfold Zdo
 rw [if_pos (by unfold lim; omega)]
 have:=list_fold (L:=Zcf m s) s (stepN (fun b=>shB b m.From m.To)) id (fun i v=>v.length=s.length∧v.drop i=s.drop i) (by omega) (fun n v i hi hs=>by
  have hv:i<v.length:=by omega
  have he:v[i]=s[i]:=by
   have h2:(v.drop i)[0]? = (s.drop i)[0]?:=by rw [hs.2]
   rw [List.getElem?_drop,List.getElem?_drop,Nat.add_zero,List.getElem?_eq_getElem hv,List.getElem?_eq_getElem hi] at h2
   exact Option.some.inj h2
  rw [Zcf]
  simp only [show ((i:Int)<(s.length:Int)) from by omega,decide_true,if_true,wsucc (by omega:i<1000000000001)]
  rw [shifted2_eq hv hi he]
  simp only [Option.bind_some]
  have h3:stepN (fun b=>shB b m.From m.To) v i s[i]=v.set i (shB s[i] m.From m.To):=by unfold stepN; rw [List.getElem?_eq_getElem hv,he]
  rw [h3]
  exact ⟨rfl,by rw [List.length_set]; exact hs.1,by rw [List.drop_set_of_lt (by omega),← List.drop_drop,← List.drop_drop,hs.2]⟩) (fun n v hs=>by rw [Zcf]; simp) s ⟨rfl,rfl⟩
 have h2:=foldI_setN (fun b=>shB b m.From m.To) s []
 rw [List.nil_append,List.nil_append,List.length_nil] at h2
 rw [this.1,h2]
 rfl
abbrev ISt:=Bool × List Bx
noncomputable def istep (s:ISt) (m:api_Move) (p:List Bx):ISt:=if vM m=true then ((uU s.1 s.2 (shM m p)).2,(uU s.1 s.2 (shM m p)).1) else s
noncomputable def imgR:ISt→List api_Move→List (List Bx)→ISt
 | s,m :: l,p :: ps=>imgR (istep s m p) l ps
 | s,_,_=>s
theorem foldI_zip (f:ISt→api_Move→List Bx→ISt):∀ (l:List api_Move) (ps:List (List Bx)) (s:ISt) (i:Nat),l.length=ps.length→(∀ s l ps,imgR s l ps=imgR s l ps)→foldI (fun s _ (x:api_Move × List Bx)=>istep s x.1 x.2) s i (l.zip ps)=imgR s l ps
 | [],[],_,_,_,_=>rfl
 | m :: l,p :: ps,s,i,h,hh=>by
  simp only [List.zip_cons_cons,foldI,imgR]
  exact foldI_zip f l ps _ _ (by simpa using h) hh
 | [],_ :: _,_,_,h,_=>by simp at h
 | _ :: _,[],_,_,h,_=>by simp at h
def resA (s:ISt):List Bx × Int:=if s.1=true then ([],3) else (s.2,0)
theorem result_eq {e:Bool} {s:List Bx} (h:s.length≤300000):Zcd (le e) s=some (resA (e,s)):=by
 unfold Zcd resA le
 cases e with
 | true=>rfl
 | false=>
  simp only [Bool.false_eq_true,if_false,bne_self_eq_false]
  rw [if_pos (by unfold lim; omega)]
structure ISok (s:ISt):Prop where
 vs:VS s.2
 e:s.1=true→s.2=[]
theorem istep_ok {s:ISt} (h:ISok s) (m:api_Move) (p:List Bx):ISok (istep s m p):=by
 unfold istep
 split
 ·exact ⟨(uU_vs _ _ _).1,(uU_vs _ _ _).2⟩
 ·exact h
noncomputable def imageA (l:List api_Move) (s:List Bx):List Bx × Int:=
 let r:=partsR (kp false (st s)).2 (kp false (st s)).1 (l.map frm)
 let o:=imgR (r.2.2,[]) l r.1
 resA ((uU o.1 o.2 r.2.1).2,(uU o.1 o.2 r.2.1).1)
theorem imgR_ok:∀ (l:List api_Move) (ps:List (List Bx)) (s:ISt),ISok s→ISok (imgR s l ps)
 | [],_,_,h=>by unfold imgR; exact h
 | _ :: _,[],_,h=>by unfold imgR; exact h
 | m :: l,p :: ps,s,h=>by unfold imgR; exact imgR_ok l ps _ (istep_ok h m p)
theorem Image_eq {l:List api_Move} (hl:l.length≤100000) (hin:∀ m∈l,MIn m) {s:List Bx} (hs:InL s):Zd8 l s=some (imageA l s):=by
 unfold Zd8 imageA
 rw [from_eq hl,make_eq hs]
 simp only [Option.bind_some]
 have hv:VS (kp false (st s)).1:=(kp_vs (st_ok s).1).1
 have hms:∀ x∈l.map frm,BIn x:=fun x hx=>by
  obtain ⟨m,hm,rfl⟩:=List.mem_map.1 hx
  unfold frm
  split
  ·exact (hin m hm).f
  ·exact ⟨⟨by decide,by decide,by decide,by decide⟩,⟨by decide,by decide,by decide,by decide⟩,⟨by decide,by decide,by decide,by decide⟩,⟨by decide,by decide,by decide,by decide⟩,⟨by decide,by decide,by decide,by decide⟩⟩
 rw [parts_eq (by rw [List.length_map]; exact hl) hms hv]
 simp only [Option.bind_some]
 have hpv:=parts_vs (l.map frm) (kp false (st s)).2 (kp false (st s)).1 hv
 have hpl:(partsR (kp false (st s)).2 (kp false (st s)).1 (l.map frm)).1.length=l.length:=by rw [parts_len,List.length_map]
 generalize hr:partsR (kp false (st s)).2 (kp false (st s)).1 (l.map frm)=r at hpv hpl
 have hzl:(l.zip r.1).length=l.length:=by rw [List.length_zip,hpl,Nat.min_self]
 have:=list_fold (L:=fun n (s:ISt) i=>Zb0 l (r.1,r.2.1,le r.2.2) n (le s.1) s.2 i) (l.zip r.1) (fun s _ x=>istep s x.1 x.2) (fun s=>(le s.1,s.2)) (fun _ s=>ISok s) (by omega) (fun n s i hi hs=>by
  show Zb0 l (r.1,r.2.1,le r.2.2) (n + 1) (le s.1) s.2 (i:Int)=_∧_
  have hil:i<l.length:=by omega
  have hir:i<r.1.length:=by omega
  have hz:(l.zip r.1)[i]=(l[i],r.1[i]):=List.getElem_zip
  rw [hz]
  refine ⟨?_,istep_ok hs _ _⟩
  have hpx:=hpv.1 _ (List.getElem_mem hir)
  rw [Zb0]
  simp only [show ((i:Int)<(r.1.length:Int)) from by omega,decide_true,if_true,idx_get hil,idx_get hir,Option.bind_some,validMove_eq,wsucc (by omega:i<1000000000001)]
  unfold istep
  by_cases h:vM l[i]=true
  ·rw [if_pos h,if_pos h,pshifted_eq hpx.inL.len]
   simp only [Option.bind_some]
   rw [lU_eq hs.vs.inL (shM_in hpx.inL.len)]
   rfl
  ·rw [if_neg h,if_neg h]
   rfl) (fun n s hs=>by
  show Zb0 l (r.1,r.2.1,le r.2.2) (n + 1) (le s.1) s.2 ((l.zip r.1).length:Int)=_
  rw [Zb0,if_neg (by rw [hzl]; simp; omega)]) (r.2.2,[]) ⟨VS.nil,fun _=>rfl⟩
 have h1:=this.1
 simp only at h1
 rw [h1,foldI_zip istep l r.1 _ _ hpl.symm (fun _ _ _=>rfl)]
 have hok:=imgR_ok l r.1 (r.2.2,[]) ⟨VS.nil,fun _=>rfl⟩
 simp only [Option.bind_some]
 rw [lU_eq hok.vs.inL hpv.2.inL]
 simp only [Option.bind_some]
 rw [result_eq (uU_vs _ _ _).1.inL.len]
 rfl
end Go.AM
set_option maxRecDepth 100000
namespace Go.AM
open Go
def sh1 (d:Int) (r:api_Range):api_Range:=⟨r.Lo + d,r.Hi + d⟩
def shL:List Int→RL→RL
 | d :: ds,r :: b=>sh1 d r :: shL ds b
 | _,_=>[]
def psub:List Int→List Int→List Int
 | v :: p,d :: ds=>(v - d) :: psub p ds
 | _,_=>[]
def padd:List Int→List Int→List Int
 | v :: p,d :: ds=>(v + d) :: padd p ds
 | _,_=>[]
def subB:RL→RL→Prop
 | [],[]=>True
 | r :: b,f :: g=>f.Lo≤r.Lo∧r.Hi≤f.Hi∧subB b g
 | _,_=>False
def mvOK:List Int→RL→List Int→Prop
 | [],[],[]=>True
 | t :: ts,f :: g,d :: ds=>0≤f.Lo + d∧f.Hi + d≤t∧mvOK ts g ds
 | _,_,_=>False
theorem shL_inj:∀ (ds:List Int) {b b':RL},b.length=ds.length→b'.length=ds.length→shL ds b=shL ds b'→b=b'
 | [],[],[],_,_,_=>rfl
 | d :: ds,r :: b,r' :: b',h,h',e=>by
  simp only [shL,List.cons.injEq,sh1,api_Range.mk.injEq] at e
  simp only [List.length_cons] at h h'
  rw [shL_inj ds (by omega) (by omega) e.2]
  congr 1
  obtain ⟨a1,a2⟩:=r
  obtain ⟨c1,c2⟩:=r'
  simp only at e
  rw [api_Range.mk.injEq]
  omega
 | [],_ :: _,_,h,_,_=>by simp at h
 | [],[],_ :: _,_,h,_=>by simp at h
 | _ :: _,[],_,h,_,_=>by simp at h
 | _ :: _,_ :: _,[],_,h,_=>by simp at h
theorem map_shL_inj {ds:List Int} {l l':List RL} (h:∀ b∈l,b.length=ds.length) (h':∀ b∈l',b.length=ds.length) (e:l.map (shL ds)=l'.map (shL ds)):l=l':=by
 induction l generalizing l' with
 | nil=>cases l' with
  | nil=>rfl
  | cons _ _=>simp at e
 | cons b l ih=>cases l' with
  | nil=>simp at e
  | cons b' l'=>
   simp only [List.map_cons,List.cons.injEq] at e
   rw [shL_inj ds (h b (List.mem_cons_self ..)) (h' b' (List.mem_cons_self ..)) e.1,ih (fun x hx=>h x (List.mem_cons_of_mem _ hx)) (fun x hx=>h' x (List.mem_cons_of_mem _ hx)) e.2]
theorem mvOK_len:∀ {ts:List Int} {f:RL} {ds:List Int},mvOK ts f ds→f.length=ts.length∧ds.length=ts.length
 | [],[],[],_=>⟨rfl,rfl⟩
 | t :: ts,f :: g,d :: ds,h=>by have:=mvOK_len h.2.2; simp only [List.length_cons]; omega
 | [],_ :: _,_,h=>by cases h
 | [],[],_ :: _,h=>by cases h
 | _ :: _,[],_,h=>by cases h
 | _ :: _,_ :: _,[],h=>by cases h
theorem CF_shift:∀ (ts:List Int) {f:RL} {ds:List Int} {l:List RL},mvOK ts f ds→CF ts l→(∀ b∈l,subB b f)→CF ts (l.map (shL ds))
 | [],f,ds,l,hm,hl,_=>by
  rcases hl with rfl | rfl
  ·exact .inl rfl
  ·cases ds with
   | nil=>exact .inr rfl
   | cons _ _=>cases f <;> cases hm
 | t :: ts,f,ds,l,hm,hl,hs=>by
  obtain ⟨c,rfl,ho,hc⟩:=hl
  cases f with
  | nil=>cases hm
  | cons f g=>cases ds with
   | nil=>cases hm
   | cons d ds=>
    obtain ⟨m1,m2,m3⟩:=hm
    have hlen:=mvOK_len m3
    have hx:∀ x∈c,f.Lo≤x.1.Lo∧x.1.Hi≤f.Hi∧∀ b∈x.2,subB b g:=by
     intro x hx
     have hxo:=ho.ok x hx
     have hin:∀ b∈x.2,subB (x.1 :: b) (f :: g):=fun b hb=>hs _ (List.mem_flatMap.2 ⟨x,hx,List.mem_map.2 ⟨b,hb,rfl⟩⟩)
     obtain ⟨b0,hb0⟩:=List.exists_mem_of_ne_nil _ hxo.2.2.2
     exact ⟨(hin b0 hb0).1,(hin b0 hb0).2.1,fun b hb=>(hin b hb).2.2⟩
    refine ⟨c.map fun x=>(sh1 d x.1,x.2.map (shL ds)),?_,⟨?_,fun y hy=>?_⟩,fun y hy=>?_⟩
    ·unfold flt
     rw [List.map_flatMap,List.flatMap_map]
     congr 1
     funext x
     rw [List.map_map,List.map_map]
     rfl
    ·rw [List.pairwise_map]
     refine List.Pairwise.imp_of_mem ?_ ho.pw
     intro x y hxc hyc hg
     refine ⟨by have:=hg.1; show x.1.Hi + d<y.1.Lo + d; omega,fun e he=>?_⟩
     have hl1:∀ {z:Cell},z∈c→∀ b∈z.2,b.length=ds.length:=fun hz b hb=>by rw [CF_len ts (hc _ hz) b hb]; omega
     refine hg.2 (by have e:x.1.Hi + d + 1=y.1.Lo + d:=e; omega) (map_shL_inj (hl1 hxc) (hl1 hyc) he)
    ·obtain ⟨x,hxc,rfl⟩:=List.mem_map.1 hy
     have:=ho.ok x hxc
     have:=hx x hxc
     refine ⟨by show 0≤x.1.Lo + d; omega,by show x.1.Lo + d≤x.1.Hi + d; omega,by show x.1.Hi + d≤t; omega,?_⟩
     simp; exact (ho.ok x hxc).2.2.2
    ·obtain ⟨x,hxc,rfl⟩:=List.mem_map.1 hy
     exact CF_shift ts m3 (hc x hxc) (hx x hxc).2.2
theorem mB_shift:∀ (ds:List Int) (b:RL) (p:List Int),b.length=ds.length→p.length=ds.length→mB (shL ds b) p=mB b (psub p ds)
 | [],[],[],_,_=>rfl
 | d :: ds,r :: b,v :: p,h,h'=>by
  simp only [shL,mB,psub]
  rw [mB_shift ds b p (by simpa using h) (by simpa using h')]
  congr 1
  rw [Bool.eq_iff_iff,inR_iff,inR_iff]
  show r.Lo + d≤v∧v≤r.Hi + d ↔ _
  omega
 | [],_ :: _,_,h,_=>by simp at h
 | [],[],_ :: _,_,h=>by simp at h
 | _ :: _,[],_,h,_=>by simp at h
 | _ :: _,_ :: _,[],_,h=>by simp at h
theorem vP_len:∀ {ts p:List Int},vP ts p→p.length=ts.length
 | [],[],_=>rfl
 | t :: ts,v :: p,h=>by simp only [List.length_cons]; rw [vP_len h.2.2]
 | [],_ :: _,h=>h.elim
 | _ :: _,[],h=>h.elim
theorem corner:∀ {ts:List Int} {b:RL},vR ts b→(vP ts (b.map (·.Lo))∧mB b (b.map (·.Lo))=true)∧(vP ts (b.map (·.Hi))∧mB b (b.map (·.Hi))=true)
 | [],[],_=>⟨⟨trivial,rfl⟩,⟨trivial,rfl⟩⟩
 | t :: ts,r :: b,h=>by
  obtain ⟨h0,h1,h2,h3⟩:=h
  obtain ⟨⟨a1,a2⟩,⟨a3,a4⟩⟩:=corner h3
  refine ⟨⟨⟨h0,by show r.Lo≤t; omega,a1⟩,?_⟩,⟨⟨by show 0≤r.Hi; omega,h2,a3⟩,?_⟩⟩
  ·simp only [List.map_cons,mB,a2,Bool.and_true]; exact inR_iff.2 ⟨Int.le_refl _,h1⟩
  ·simp only [List.map_cons,mB,a4,Bool.and_true]; exact inR_iff.2 ⟨h1,Int.le_refl _⟩
 | [],_ :: _,h=>h.elim
 | _ :: _,[],h=>h.elim
theorem subB_of:∀ {b f:RL},mB f (b.map (·.Lo))=true→mB f (b.map (·.Hi))=true→subB b f
 | [],[],_,_=>trivial
 | r :: b,g :: f,h,h'=>by
  simp only [List.map_cons,mB,Bool.and_eq_true,inR_iff] at h h'
  exact ⟨h.1.1,h'.1.2,subB_of h.2 h'.2⟩
 | [],_ :: _,h,_=>by simp [mB] at h
 | _ :: _,[],h,_=>by simp [mB] at h
def dM (m:api_Move):List Int:=[m.To.x0.Lo - m.From.x0.Lo,m.To.x1.Lo - m.From.x1.Lo,m.To.x2.Lo - m.From.x2.Lo,m.To.x3.Lo - m.From.x3.Lo,m.To.x4.Lo - m.From.x4.Lo]
theorem dlen (m:api_Move) {p:List Int} (h:vP tops5 p):p.length=(dM m).length:=by rw [vP_len h]; rfl
theorem vM_nums {m:api_Move} (hm:MIn m) (h:vM m=true) {f:Nat} (hf:f<5):0≤(m.From.get (f:Int)).Lo∧(m.From.get (f:Int)).Lo≤(m.From.get (f:Int)).Hi∧(m.From.get (f:Int)).Hi≤topOf (f:Int)∧0≤(m.To.get (f:Int)).Lo∧(m.To.get (f:Int)).Hi≤topOf (f:Int)∧(m.From.get (f:Int)).Hi - (m.From.get (f:Int)).Lo=(m.To.get (f:Int)).Hi - (m.To.get (f:Int)).Lo:=by
 unfold vM at h
 simp only [Bool.and_eq_true] at h
 obtain ⟨⟨v1,v2⟩,v3⟩:=h
 have h0:(0:Int)≤(f:Int):=by omega
 have h1:(f:Int)<5:=by omega
 obtain ⟨a1,a2,a3⟩:=vB_get hm.f v1 h0 h1
 obtain ⟨b1,b2,b3⟩:=vB_get hm.t v2 h0 h1
 obtain ⟨t1,t2⟩:=topOf_lt h0 h1
 have hd:=allF_get v3 h0 h1
 unfold difM at hd
 rw [wu32 (x:=(m.From.get (f:Int)).Hi - (m.From.get (f:Int)).Lo) (by omega) (by omega),wu32 (x:=(m.To.get (f:Int)).Hi - (m.To.get (f:Int)).Lo) (by omega) (by omega)] at hd
 simp only [bne_eq_false_iff_eq] at hd
 exact ⟨a1,a2,a3,b1,b3,hd⟩
structure MN (m:api_Move):Prop where
 n0:0≤m.From.x0.Lo∧m.From.x0.Lo≤m.From.x0.Hi∧m.From.x0.Hi≤4294967295∧0≤m.To.x0.Lo∧m.To.x0.Hi≤4294967295∧m.From.x0.Hi - m.From.x0.Lo=m.To.x0.Hi - m.To.x0.Lo
 n1:0≤m.From.x1.Lo∧m.From.x1.Lo≤m.From.x1.Hi∧m.From.x1.Hi≤4294967295∧0≤m.To.x1.Lo∧m.To.x1.Hi≤4294967295∧m.From.x1.Hi - m.From.x1.Lo=m.To.x1.Hi - m.To.x1.Lo
 n2:0≤m.From.x2.Lo∧m.From.x2.Lo≤m.From.x2.Hi∧m.From.x2.Hi≤255∧0≤m.To.x2.Lo∧m.To.x2.Hi≤255∧m.From.x2.Hi - m.From.x2.Lo=m.To.x2.Hi - m.To.x2.Lo
 n3:0≤m.From.x3.Lo∧m.From.x3.Lo≤m.From.x3.Hi∧m.From.x3.Hi≤65535∧0≤m.To.x3.Lo∧m.To.x3.Hi≤65535∧m.From.x3.Hi - m.From.x3.Lo=m.To.x3.Hi - m.To.x3.Lo
 n4:0≤m.From.x4.Lo∧m.From.x4.Lo≤m.From.x4.Hi∧m.From.x4.Hi≤65535∧0≤m.To.x4.Lo∧m.To.x4.Hi≤65535∧m.From.x4.Hi - m.From.x4.Lo=m.To.x4.Hi - m.To.x4.Lo
theorem vM_MN {m:api_Move} (hm:MIn m) (h:vM m=true):MN m:=
 ⟨vM_nums hm h (f:=0) (by omega),vM_nums hm h (f:=1) (by omega),vM_nums hm h (f:=2) (by omega),vM_nums hm h (f:=3) (by omega),vM_nums hm h (f:=4) (by omega)⟩
theorem MN.turn {m:api_Move} (h:MN m):MN (turn m):=by
 obtain ⟨h0,h1,h2,h3,h4⟩:=h
 exact ⟨by simp only [AM.turn]; omega,by simp only [AM.turn]; omega,by simp only [AM.turn]; omega,by simp only [AM.turn]; omega,by simp only [AM.turn]; omega⟩
theorem MN.mv {m:api_Move} (h:MN m):mvOK tops5 (toL m.From) (dM m):=by
 obtain ⟨h0,h1,h2,h3,h4⟩:=h
 exact ⟨by omega,by omega,by omega,by omega,by omega,by omega,by omega,by omega,by omega,by omega,trivial⟩
theorem shr_nums {a f t:api_Range} {top:Int} (h:0≤f.Lo∧f.Lo≤f.Hi∧f.Hi≤top∧0≤t.Lo∧t.Hi≤top∧f.Hi - f.Lo=t.Hi - t.Lo) (ht:top<4294967296) (hs:f.Lo≤a.Lo∧a.Hi≤f.Hi) (ha:a.Lo≤a.Hi):shr a f t=sh1 (t.Lo - f.Lo) a:=by
 unfold shr sh1
 rw [wu32 (x:=a.Lo - f.Lo) (by omega) (by omega),wu32 (x:=a.Hi - f.Lo) (by omega) (by omega),wu32 (by omega) (by omega),wu32 (by omega) (by omega)]
 congr 1 <;> omega
theorem shB_nums {m:api_Move} (h:MN m) {b:Bx} (hb:BOk b) (hs:subB (toL b) (toL m.From)):toL (shB b m.From m.To)=shL (dM m) (toL b):=by
 obtain ⟨h0,h1,h2,h3,h4⟩:=h
 obtain ⟨s0,s0',s1,s1',s2,s2',s3,s3',s4,s4',_⟩:=hs
 simp only [shB,toL,dM,shL]
 rw [shr_nums h0 (by omega) ⟨s0,s0'⟩ hb.h0.h1,shr_nums h1 (by omega) ⟨s1,s1'⟩ hb.h1.h1,shr_nums h2 (by omega) ⟨s2,s2'⟩ hb.h2.h1,shr_nums h3 (by omega) ⟨s3,s3'⟩ hb.h3.h1,shr_nums h4 (by omega) ⟨s4,s4'⟩ hb.h4.h1]
theorem any_congr {α:Type} {f g:α→Bool} {l:List α} (h:∀ x∈l,f x=g x):l.any f=l.any g:=by
 induction l with
 | nil=>rfl
 | cons x l ih=>rw [List.any_cons,List.any_cons,h x (List.mem_cons_self ..),ih fun y hy=>h y (List.mem_cons_of_mem _ hy)]
theorem shM_ok {m:api_Move} (h:MN m) {s:List Bx} (hs:VS s) (hin:∀ p,vP tops5 p→mem s p=true→mB (toL m.From) p=true) :
  VS (shM m s)∧∀ p,vP tops5 p→mem (shM m s) p=mem s (psub p (dM m)):=by
 have hsub:∀ b∈s,subB (toL b) (toL m.From):=fun b hb=>by
  have hv:=ok_vR (hs.ok b hb)
  obtain ⟨⟨a1,a2⟩,⟨a3,a4⟩⟩:=corner hv
  have hm1:∀ p,mB (toL b) p=true→mem s p=true:=fun p hp=>mS_iff.2 ⟨toL b,List.mem_map_of_mem hb,hp⟩
  exact subB_of (hin _ a1 (hm1 _ a2)) (hin _ a3 (hm1 _ a4))
 have hmap:(shM m s).map toL=(s.map toL).map (shL (dM m)):=by
  unfold shM
  rw [List.map_map,List.map_map]
  exact List.map_congr_left fun b hb=>shB_nums h (hs.ok b hb) (hsub b hb)
 refine ⟨VS.of ?_ (by unfold shM; rw [List.length_map]; exact hs.len),fun p hp=>?_⟩
 ·unfold CFb
  rw [hmap]
  refine CF_shift tops5 h.mv hs.cf fun b hb=>?_
  obtain ⟨x,hx,rfl⟩:=List.mem_map.1 hb
  exact hsub x hx
 ·unfold mem
  rw [hmap]
  unfold mS
  rw [List.any_map]
  exact any_congr fun b hb=>by
   obtain ⟨x,hx,rfl⟩:=List.mem_map.1 hb
   exact mB_shift (dM m) (toL x) p rfl (dlen m hp)
theorem memV_vs {a:List Bx} (h:VS a) (p:List Int):mem (a.filter vB) p=mem a p:=by rw [List.filter_eq_self.2 fun x hx=>ok_vB (h.ok x hx)]
theorem mem_one (b:Bx) (p:List Int):mem [b] p=mB (toL b) p:=by unfold mem mS; simp
theorem memV_one {b:Bx} (h:vB b=true) (p:List Int):mem ([b].filter vB) p=mB (toL b) p:=by rw [List.filter_cons,if_pos h]; exact mem_one b p
theorem kp_false {e:Bool} {r:List Bx × Int} (h:(kp e r).2=false):e=false∧r.2=0∧(kp e r).1=r.1:=by
 unfold kp at h ⊢
 split at h
 ·cases h
 ·rename_i hn
  rw [if_neg hn]
  refine ⟨?_,?_,rfl⟩
  ·cases e with
   | true=>exact absurd (Or.inl rfl) hn
   | false=>rfl
  ·exact Classical.byContradiction fun h0=>hn (Or.inr h0)
theorem kp_sem {e:Bool} {op:Bool→Bool→Bool} {a b:List Bx} (h:(kp e (cmb op a b)).2=false):e=false∧∀ p,vP tops5 p→mem (kp e (cmb op a b)).1 p=op (mem (a.filter vB) p) (mem (b.filter vB) p):=by
 obtain ⟨h1,h2,h3⟩:=kp_false h
 exact ⟨h1,fun p hp=>by rw [h3,(cmb_ok op a b).2 h2 p hp]⟩
def mtc:List api_Move→List Int→Option api_Move
 | [],_=>none
 | m :: l,p=>if (vM m && mB (toL m.From) p)=true then some m else mtc l p
def apP (l:List api_Move) (p:List Int):List Int:=match mtc l p with
 | some m=>padd p (dM m)
 | none=>p
theorem parts_mono:∀ (l:List Bx) (e:Bool) (s:List Bx),(partsR e s l).2.2=false→e=false
 | [],_,_,h=>h
 | b :: l,e,s,h=>by
  simp only [partsR] at h
  split at h
  ·have h1:=parts_mono l _ _ h
   exact (kp_sem (kp_sem h1).1).1
  ·exact parts_mono l _ _ h
theorem imgR_mono:∀ (l:List api_Move) (ps:List (List Bx)) (s:ISt),(imgR s l ps).1=false→s.1=false
 | [],_,_,h=>by unfold imgR at h; exact h
 | _ :: _,[],_,h=>by unfold imgR at h; exact h
 | m :: l,p :: ps,s,h=>by
  unfold imgR at h
  have h1:=imgR_mono l ps _ h
  unfold istep at h1
  split at h1
  ·exact (kp_sem h1).1
  ·exact h1
theorem psub_padd:∀ {p ds:List Int},p.length=ds.length→padd (psub p ds) ds=p
 | [],[],_=>rfl
 | v :: p,d :: ds,h=>by simp only [psub,padd]; rw [psub_padd (by simpa using h),Int.sub_add_cancel]
 | [],_ :: _,h=>by simp at h
 | _ :: _,[],h=>by simp at h
theorem padd_psub:∀ {p ds:List Int},p.length=ds.length→psub (padd p ds) ds=p
 | [],[],_=>rfl
 | v :: p,d :: ds,h=>by simp only [psub,padd]; rw [padd_psub (by simpa using h),Int.add_sub_cancel]
 | [],_ :: _,h=>by simp at h
 | _ :: _,[],h=>by simp at h
theorem vP_of:∀ {ts:List Int} {b:RL} {p:List Int},vR ts b→mB b p=true→vP ts p
 | [],[],[],_,_=>trivial
 | t :: ts,r :: b,v :: p,h,hb=>by
  simp only [mB,Bool.and_eq_true,inR_iff] at hb
  obtain ⟨h0,h1,h2,h3⟩:=h
  exact ⟨by omega,by omega,vP_of h3 hb.2⟩
 | [],[],_ :: _,_,h=>by simp [mB] at h
 | _ :: _,_ :: _,[],_,h=>by simp [mB] at h
 | [],_ :: _,_,h,_=>h.elim
 | _ :: _,[],_,h,_=>h.elim
theorem parts_sem:∀ (l:List api_Move) (e e1:Bool) (s out:List Bx),(∀ m∈l,MIn m)→VS s→VS out→(partsR e s (l.map frm)).2.2=false→(imgR (e1,out) l (partsR e s (l.map frm)).1).1=false →
  (∀ p,vP tops5 p→(mem (partsR e s (l.map frm)).2.1 p=true ↔ mem s p=true∧mtc l p=none)) ∧
  ∀ p,vP tops5 p→(mem (imgR (e1,out) l (partsR e s (l.map frm)).1).2 p=true ↔ mem out p=true∨∃ q,vP tops5 q∧mem s q=true∧∃ m,mtc l q=some m∧padd q (dM m)=p)
 | [],e,e1,s,out,_,_,_,_,_=>by
  refine ⟨fun p _=>by simp [partsR,mtc],fun p _=>?_⟩
  simp [imgR,mtc]
 | m :: l,e,e1,s,out,hin,hs,ho,h1,h2=>by
  have hm:=hin m (List.mem_cons_self ..)
  have hin':∀ m∈l,MIn m:=fun x hx=>hin x (List.mem_cons_of_mem _ hx)
  by_cases hv:vM m=true
  ·have hf:vB (frm m)=true:=by rw [frm_v]; exact hv
   have ef:frm m=m.From:=by unfold frm; rw [if_pos hv]
   have hMN:=vM_MN hm hv
   rw [List.map_cons] at h1 h2 ⊢
   simp only [partsR,if_pos hf] at h1 h2 ⊢
   rw [ef] at h1 h2 ⊢ hf
   simp only [imgR] at h2 ⊢
   have g1:=parts_mono _ _ _ h1
   obtain ⟨g2,gS⟩:=kp_sem g1
   obtain ⟨g3,gI⟩:=kp_sem g2
   have hI:∀ p,vP tops5 p→mem (uI e s [m.From]).1 p=(mem s p && mB (toL m.From) p):=fun p hp=>by
    have:=gI p hp
    rw [memV_vs hs,memV_one hf] at this
    exact this
   have hS:∀ p,vP tops5 p→mem (uS (uI e s [m.From]).2 s [m.From]).1 p=(mem s p && !mB (toL m.From) p):=fun p hp=>by
    have:=gS p hp
    rw [memV_vs hs,memV_one hf] at this
    exact this
   have gi:=imgR_mono _ _ _ h2
   have est:istep (e1,out) m (uI e s [m.From]).1=((uU e1 out (shM m (uI e s [m.From]).1)).2,(uU e1 out (shM m (uI e s [m.From]).1)).1):=by unfold istep; rw [if_pos hv]
   rw [est] at gi h2 ⊢
   obtain ⟨g4,gU⟩:=kp_sem gi
   have hPvs:=(uI_vs e s [m.From]).1
   obtain ⟨sv,sm⟩:=shM_ok hMN hPvs fun p hp hm=>by rw [hI p hp] at hm; simp only [Bool.and_eq_true] at hm; exact hm.2
   obtain ⟨i1,i2⟩:=parts_sem l _ _ _ (uU e1 out (shM m (uI e s [m.From]).1)).1 hin' (uS_vs (uI e s [m.From]).2 s [m.From]).1 (uU_vs _ _ _).1 h1 h2
   refine ⟨fun p hp=>?_,fun p hp=>?_⟩
   ·rw [i1 p hp,hS p hp]
    simp only [mtc,hv,Bool.true_and,Bool.and_eq_true,Bool.not_eq_true']
    by_cases hb:mB (toL m.From) p=true
    ·simp [hb]
    ·rw [if_neg hb]
     rw [Bool.not_eq_true] at hb
     simp [hb]
   ·rw [i2 p hp]
    have hU:mem (uU e1 out (shM m (uI e s [m.From]).1)).1 p=(mem out p || mem (uI e s [m.From]).1 (psub p (dM m))):=by
     have:=gU p hp
     rw [memV_vs ho,memV_vs sv,sm p hp] at this
     exact this
    rw [hU,Bool.or_eq_true,or_assoc]
    refine or_congr Iff.rfl ⟨fun h=>?_,fun ⟨q,hq,h3,m',h4,h5⟩=>?_⟩
    ·rcases h with h | ⟨q,hq,h3,m',h4,h5⟩
     ·have hbox:mB (toL m.From) (psub p (dM m))=true:=by
       obtain ⟨b,hb,hbm⟩:=mS_iff.1 h
       obtain ⟨x,hx,rfl⟩:=List.mem_map.1 hb
       have hqv:=vP_of (ok_vR (hPvs.ok x hx)) hbm
       rw [hI _ hqv] at h
       simp only [Bool.and_eq_true] at h
       exact h.2
      have hqv:=vP_of (ok_vR (vB_ok hm.f hf)) hbox
      rw [hI _ hqv] at h
      simp only [Bool.and_eq_true] at h
      exact ⟨_,hqv,h.1,m,by simp only [mtc,hv,h.2,Bool.and_self,if_true],psub_padd (dlen m hp)⟩
     ·rw [hS q hq] at h3
      simp only [Bool.and_eq_true,Bool.not_eq_true'] at h3
      exact ⟨q,hq,h3.1,m',by simp only [mtc,hv,h3.2,Bool.and_false,Bool.false_eq_true,if_false]; exact h4,h5⟩
    ·simp only [mtc,hv,Bool.true_and] at h4
     by_cases hb:mB (toL m.From) q=true
     ·rw [if_pos hb,Option.some.injEq] at h4
      subst h4
      refine Or.inl ?_
      rw [← h5,padd_psub (dlen m hq),hI q hq,h3,hb]; rfl
     ·rw [if_neg hb] at h4
      rw [Bool.not_eq_true] at hb
      exact Or.inr ⟨q,hq,by rw [hS q hq,h3,hb]; rfl,m',h4,h5⟩
  ·have hf:vB (frm m)=false:=by rw [frm_v]; simpa using hv
   have hv':vM m=false:=by simpa using hv
   rw [List.map_cons] at h1 h2 ⊢
   simp only [partsR,hf,Bool.false_eq_true,if_false] at h1 h2 ⊢
   have est:istep (e1,out) m []=(e1,out):=by unfold istep; rw [if_neg hv]
   simp only [imgR,est] at h2 ⊢
   obtain ⟨i1,i2⟩:=parts_sem l e e1 s out hin' hs ho h1 h2
   have em:∀ p,mtc (m :: l) p=mtc l p:=fun p=>by simp only [mtc,hv',Bool.false_and,Bool.false_eq_true,if_false]
   exact ⟨fun p hp=>by rw [i1 p hp,em],fun p hp=>by rw [i2 p hp]; simp only [em]⟩
theorem st_kp {s:List Bx} (h:(kp false (st s)).2=false):(∀ p,vP tops5 p→mem (kp false (st s)).1 p=mem (s.filter vB) p):=by
 obtain ⟨_,h2,h3⟩:=kp_false h
 exact fun p hp=>by rw [h3,(st_ok s).2 h2 p hp]
theorem image_sem {l:List api_Move} (hin:∀ m∈l,MIn m) {s:List Bx} (h0:(imageA l s).2=0):VS (imageA l s).1∧∀ p,vP tops5 p→(mem (imageA l s).1 p=true ↔ ∃ q,vP tops5 q∧mem (s.filter vB) q=true∧apP l q=p):=by
 unfold imageA at h0 ⊢
 simp only at h0 ⊢
 have hv:VS (kp false (st s)).1:=(kp_vs (st_ok s).1).1
 generalize hr:partsR (kp false (st s)).2 (kp false (st s)).1 (l.map frm)=r at h0 ⊢
 generalize ho:imgR (r.2.2,[]) l r.1=o at h0 ⊢
 have hpv:=parts_vs (l.map frm) (kp false (st s)).2 (kp false (st s)).1 hv
 have hio:=imgR_ok l r.1 (r.2.2,[]) ⟨VS.nil,fun _=>rfl⟩
 rw [hr] at hpv
 rw [ho] at hio
 have hfin:(uU o.1 o.2 r.2.1).2=false:=by
  cases h:(uU o.1 o.2 r.2.1).2 with
  | true=>rw [h] at h0; cases h0
  | false=>rfl
 have hres:resA ((uU o.1 o.2 r.2.1).2,(uU o.1 o.2 r.2.1).1)=((uU o.1 o.2 r.2.1).1,0):=by rw [hfin]; rfl
 rw [hres]
 obtain ⟨g1,gU⟩:=kp_sem hfin
 have g2:(imgR (r.2.2,[]) l r.1).1=false:=by rw [ho]; exact g1
 have g3:=imgR_mono _ _ _ g2
 have g4:=parts_mono (l.map frm) (kp false (st s)).2 (kp false (st s)).1 (by rw [hr]; exact g3)
 obtain ⟨i1,i2⟩:=parts_sem l (kp false (st s)).2 r.2.2 (kp false (st s)).1 [] hin hv VS.nil (by rw [hr]; exact g3) (by rw [hr]; exact g2)
 rw [hr] at i1 i2
 rw [ho] at i2
 refine ⟨(uU_vs _ _ _).1,fun p hp=>?_⟩
 have e1:mem (uU o.1 o.2 r.2.1).1 p=(mem o.2 p || mem r.2.1 p):=by
  have:=gU p hp
  rw [memV_vs hio.vs,memV_vs hpv.2] at this
  exact this
 show mem (uU o.1 o.2 r.2.1).1 p=true ↔ _
 rw [e1,Bool.or_eq_true,i1 p hp,i2 p hp,mem_nil]
 have es:=st_kp g4
 constructor
 ·rintro ((h | ⟨q,hq,h3,m,h4,h5⟩) | ⟨h3,h4⟩)
  ·cases h
  ·exact ⟨q,hq,by rw [← es q hq]; exact h3,by unfold apP; rw [h4]; exact h5⟩
  ·exact ⟨p,hp,by rw [← es p hp]; exact h3,by unfold apP; rw [h4]⟩
 ·rintro ⟨q,hq,h3,h4⟩
  rw [← es q hq] at h3
  unfold apP at h4
  cases hm:mtc l q with
  | none=>rw [hm] at h4; simp only at h4; subst h4; exact Or.inr ⟨h3,hm⟩
  | some m=>rw [hm] at h4; exact Or.inl (Or.inr ⟨q,hq,h3,m,hm,h4⟩)
end Go.AM
set_option maxRecDepth 100000
namespace Go.AM
open Go
theorem bFull_eq:Zhi=some full:=by kernel_rfl
theorem turned_eq (m:api_Move):Zfl m=some (turn m):=rfl
abbrev QSt:=Bool × List Bx × List Bx
noncomputable def qPart (s:QSt) (m:api_Move):=uI s.1 s.2.2 [m.From]
noncomputable def qInto (to:List Bx) (s:QSt) (m:api_Move):=uI (qPart s m).2 to [m.To]
noncomputable def qKept (to:List Bx) (s:QSt) (m:api_Move):=uI (qInto to s m).2 (qPart s m).1 (shM (turn m) (qInto to s m).1)
noncomputable def qOut (to:List Bx) (s:QSt) (m:api_Move):=uU (qKept to s m).2 s.2.1 (qKept to s m).1
noncomputable def qRest (to:List Bx) (s:QSt) (m:api_Move):=uS (qOut to s m).2 s.2.2 [m.From]
noncomputable def qstep (to:List Bx) (s:QSt) (m:api_Move):QSt:=if vM m=true then ((qRest to s m).2,(qOut to s m).1,(qRest to s m).1) else s
structure QOk (s:QSt):Prop where
 o:VS s.2.1
 r:VS s.2.2
theorem qstep_ok {to:List Bx} {s:QSt} (h:QOk s) (m:api_Move):QOk (qstep to s m):=by
 unfold qstep
 split
 ·exact ⟨(uU_vs _ _ _).1,(uS_vs _ _ _).1⟩
 ·exact h
theorem VS.full:VS [full]:=VS.of (CFb.single full_ok) (by simp)
noncomputable def preA (l:List api_Move) (s:List Bx):List Bx × Int:=
 let o:=l.foldl (qstep (kp false (st s)).1) ((kp false (st s)).2,[],[full])
 let w:=uI o.1 o.2.2 (kp false (st s)).1
 resA ((uU w.2 o.2.1 w.1).2,(uU w.2 o.2.1 w.1).1)
theorem qfold_ok (to:List Bx):∀ (l:List api_Move) (s:QSt),QOk s→QOk (l.foldl (qstep to) s)
 | [],_,h=>h
 | m :: l,s,h=>by rw [List.foldl_cons]; exact qfold_ok to l _ (qstep_ok h m)
theorem Preimage_eq {l:List api_Move} (hl:l.length≤100000) (hin:∀ m∈l,MIn m) {s:List Bx} (hs:InL s):Zde l s=some (preA l s):=by
 unfold Zde preA
 rw [make_eq hs,bFull_eq]
 simp only [Option.bind_some]
 have hv:VS (kp false (st s)).1:=(kp_vs (st_ok s).1).1
 generalize kp false (st s)=t at hv ⊢
 have:=list_fold (L:=fun n (s:QSt) i=>Zbf l (t.1,le t.2) n (le s.1) s.2.1 s.2.2 i) l (fun s _ m=>qstep t.1 s m) (fun s=>(le s.1,s.2.1,s.2.2)) (fun _ s=>QOk s) (by omega) (fun n s i hi hs=>by
  show Zbf l (t.1,le t.2) (n + 1) (le s.1) s.2.1 s.2.2 (i:Int)=_∧_
  have hb:=hin _ (List.getElem_mem hi)
  refine ⟨?_,qstep_ok hs _⟩
  rw [Zbf]
  simp only [show ((i:Int)<(l.length:Int)) from by omega,decide_true,if_true,idx_get hi,Option.bind_some,validMove_eq,wsucc (by omega:i<1000000000001)]
  unfold qstep
  by_cases h:vM l[i]=true
  ·rw [if_pos h,h]
   simp only [Bool.not_true,Bool.false_eq_true,if_false]
   rw [lI_eq hs.r.inL (InL.one hb.f)]
   simp only [Option.bind_some,turned_eq]
   rw [lI_eq hv.inL (InL.one hb.t)]
   simp only [Option.bind_some]
   rw [pshifted_eq (uI_vs _ _ _).1.inL.len]
   simp only [Option.bind_some]
   rw [lI_eq (uI_vs _ _ _).1.inL (shM_in (uI_vs _ _ _).1.inL.len)]
   simp only [Option.bind_some]
   rw [lU_eq hs.o.inL (uI_vs _ _ _).1.inL]
   simp only [Option.bind_some]
   rw [lS_eq hs.r.inL (InL.one hb.f)]
   rfl
  ·rw [if_neg h]
   rw [Bool.not_eq_true] at h
   rw [h]
   rfl) (fun n s hs=>by
  show Zbf l (t.1,le t.2) (n + 1) (le s.1) s.2.1 s.2.2 (l.length:Int)=_
  rw [Zbf]; simp) (t.2,[],[full]) ⟨VS.nil,VS.full⟩
 have h1:=this.1
 simp only at h1
 rw [h1,foldI_eq (qstep t.1)]
 have hok:=qfold_ok t.1 l (t.2,[],[full]) ⟨VS.nil,VS.full⟩
 simp only [Option.bind_some]
 rw [lI_eq hok.r.inL hv.inL]
 simp only [Option.bind_some]
 rw [lU_eq hok.o.inL (uI_vs _ _ _).1.inL]
 simp only [Option.bind_some]
 rw [result_eq (uU_vs _ _ _).1.inL.len]
 rfl
theorem qfold_mono (to:List Bx):∀ (l:List api_Move) (s:QSt),(l.foldl (qstep to) s).1=false→s.1=false
 | [],_,h=>h
 | m :: l,s,h=>by
  rw [List.foldl_cons] at h
  have h1:=qfold_mono to l _ h
  unfold qstep at h1
  split at h1
  ·exact (kp_sem (kp_sem (kp_sem (kp_sem (kp_sem h1).1).1).1).1).1
  ·exact h1
theorem five_of {q:List Int} (hv:vP tops5 q):∃ a b c d e,q=[a,b,c,d,e]:=by
 have:=vP_len hv
 rcases q with _ | ⟨a,_ | ⟨b,_ | ⟨c,_ | ⟨d,_ | ⟨e,_ | ⟨g,l⟩⟩⟩⟩⟩⟩ <;> simp [tops5] at this
 exact ⟨a,b,c,d,e,rfl⟩
theorem padd_mem {m:api_Move} (h:MN m) {q:List Int} (hq:mB (toL m.From) q=true) (hv:vP tops5 q):mB (toL m.To) (padd q (dM m))=true∧vP tops5 (padd q (dM m)):=by
 obtain ⟨a,b,c,d,e,rfl⟩:=five_of hv
 obtain ⟨h0,h1,h2,h3,h4⟩:=h
 simp only [toL,mB,Bool.and_eq_true,inR_iff,Bool.and_true] at hq
 obtain ⟨q0,q1,q2,q3,q4⟩:=hq
 constructor
 ·simp only [toL,dM,padd,mB,Bool.and_eq_true,inR_iff,Bool.and_true]
  omega
 ·simp only [dM,padd,tops5,vP,and_true]
  omega
theorem dM_turn (m:api_Move) (q:List Int) (h:vP tops5 q):psub q (dM (turn m))=padd q (dM m):=by
 obtain ⟨a,b,c,d,e,rfl⟩:=five_of h
 simp only [dM,turn,psub,padd,List.cons.injEq,and_true]
 omega
theorem qfold_sem (to:List Bx) (hto:VS to):∀ (l:List api_Move) (s:QSt),(∀ m∈l,MIn m)→QOk s→(l.foldl (qstep to) s).1=false →
  (∀ p,vP tops5 p→(mem (l.foldl (qstep to) s).2.2 p=true ↔ mem s.2.2 p=true∧mtc l p=none)) ∧
  ∀ p,vP tops5 p→(mem (l.foldl (qstep to) s).2.1 p=true ↔ mem s.2.1 p=true∨(mem s.2.2 p=true∧∃ m,mtc l p=some m∧mem to (padd p (dM m))=true))
 | [],s,_,_,_=>⟨fun p _=>by simp [mtc],fun p _=>by simp [mtc]⟩
 | m :: l,s,hin,hs,h=>by
  have hm:=hin m (List.mem_cons_self ..)
  have hin':∀ m∈l,MIn m:=fun x hx=>hin x (List.mem_cons_of_mem _ hx)
  rw [List.foldl_cons] at h ⊢
  have hok:=qstep_ok (to:=to) hs m
  obtain ⟨i1,i2⟩:=qfold_sem to hto l _ hin' hok h
  have g0:=qfold_mono to l _ h
  by_cases hv:vM m=true
  ·have hMN:=vM_MN hm hv
   have hf:vB m.From=true:=(vM_from hv).1
   have ht:vB m.To=true:=(vM_from hv).2
   have eq:qstep to s m=((qRest to s m).2,(qOut to s m).1,(qRest to s m).1):=by unfold qstep; rw [if_pos hv]
   rw [eq] at g0 i1 i2 hok ⊢
   obtain ⟨g1,gR⟩:=kp_sem (show (kp (qOut to s m).2 (cmb oW s.2.2 [m.From])).2=false from g0)
   obtain ⟨g2,gO⟩:=kp_sem (show (kp (qKept to s m).2 (cmb oO s.2.1 (qKept to s m).1)).2=false from g1)
   obtain ⟨g3,gK⟩:=kp_sem (show (kp (qInto to s m).2 (cmb oA (qPart s m).1 (shM (turn m) (qInto to s m).1))).2=false from g2)
   obtain ⟨g4,gI⟩:=kp_sem (show (kp (qPart s m).2 (cmb oA to [m.To])).2=false from g3)
   obtain ⟨g5,gP⟩:=kp_sem (show (kp s.1 (cmb oA s.2.2 [m.From])).2=false from g4)
   have hP:∀ p,vP tops5 p→mem (qPart s m).1 p=(mem s.2.2 p && mB (toL m.From) p):=fun p hp=>by
    have:=gP p hp; rw [memV_vs hs.r,memV_one hf] at this; exact this
   have hI:∀ p,vP tops5 p→mem (qInto to s m).1 p=(mem to p && mB (toL m.To) p):=fun p hp=>by
    have:=gI p hp; rw [memV_vs hto,memV_one ht] at this; exact this
   have hIv:VS (qInto to s m).1:=(uI_vs _ _ _).1
   obtain ⟨sv,sm⟩:=shM_ok hMN.turn hIv fun p hp hmm=>by
    rw [hI p hp] at hmm; simp only [Bool.and_eq_true] at hmm; exact hmm.2
   have hK:∀ p,vP tops5 p→mem (qKept to s m).1 p=(mem (qPart s m).1 p && mem (shM (turn m) (qInto to s m).1) p):=fun p hp=>by
    have:=gK p hp; rw [memV_vs (show VS (qPart s m).1 from (uI_vs _ _ _).1),memV_vs sv] at this; exact this
   have hO:∀ p,vP tops5 p→mem (qOut to s m).1 p=(mem s.2.1 p || mem (qKept to s m).1 p):=fun p hp=>by
    have:=gO p hp; rw [memV_vs hs.o,memV_vs (show VS (qKept to s m).1 from (uI_vs _ _ _).1)] at this; exact this
   have hR:∀ p,vP tops5 p→mem (qRest to s m).1 p=(mem s.2.2 p && !mB (toL m.From) p):=fun p hp=>by
    have:=gR p hp; rw [memV_vs hs.r,memV_one hf] at this; exact this
   have key:∀ p,vP tops5 p→mem (qKept to s m).1 p=(mem s.2.2 p && mB (toL m.From) p && mem to (padd p (dM m))):=fun p hp=>by
    rw [hK p hp,hP p hp]
    by_cases hb:mB (toL m.From) p=true
    ·obtain ⟨k1,k2⟩:=padd_mem hMN hb hp
     rw [sm p hp,dM_turn m p hp,hI _ k2,k1,Bool.and_true]
    ·rw [Bool.not_eq_true] at hb
     simp [hb]
   refine ⟨fun p hp=>?_,fun p hp=>?_⟩
   ·rw [i1 p hp,hR p hp]
    simp only [mtc,hv,Bool.true_and,Bool.and_eq_true,Bool.not_eq_true']
    by_cases hb:mB (toL m.From) p=true
    ·simp [hb]
    ·rw [if_neg hb]
     rw [Bool.not_eq_true] at hb
     simp [hb]
   ·rw [i2 p hp,hO p hp,key p hp,hR p hp,Bool.or_eq_true,or_assoc]
    refine or_congr Iff.rfl ?_
    simp only [mtc,hv,Bool.true_and,Bool.and_eq_true,Bool.not_eq_true']
    by_cases hb:mB (toL m.From) p=true
    ·simp [hb]
    ·rw [if_neg hb]
     rw [Bool.not_eq_true] at hb
     simp [hb]
  ·have hv':vM m=false:=by simpa using hv
   have eq:qstep to s m=s:=by unfold qstep; rw [if_neg hv]
   rw [eq] at i1 i2 ⊢
   have em:∀ p,mtc (m :: l) p=mtc l p:=fun p=>by simp only [mtc,hv',Bool.false_and,Bool.false_eq_true,if_false]
   exact ⟨fun p hp=>by rw [i1 p hp,em],fun p hp=>by rw [i2 p hp,em]⟩
theorem mem_full {p:List Int} (h:vP tops5 p):mem [full] p=true:=by
 rw [mem_one]
 obtain ⟨a,b,c,d,e,rfl⟩:=five_of h
 simp only [tops5,vP] at h
 simp only [toL,full,mB,Bool.and_eq_true,inR_iff,Bool.and_true]
 omega
theorem mtc_some {l:List api_Move} {p:List Int} {m:api_Move} (h:mtc l p=some m):m∈l∧vM m=true∧mB (toL m.From) p=true:=by
 induction l with
 | nil=>cases h
 | cons x l ih=>
  simp only [mtc] at h
  split at h
  ·rename_i hc
   simp only [Option.some.injEq] at h
   subst h
   simp only [Bool.and_eq_true] at hc
   exact ⟨List.mem_cons_self ..,hc.1,hc.2⟩
  ·have:=ih h
   exact ⟨List.mem_cons_of_mem _ this.1,this.2⟩
theorem apP_ok {l:List api_Move} (hin:∀ m∈l,MIn m) {p:List Int} (hp:vP tops5 p):vP tops5 (apP l p):=by
 unfold apP
 cases hm:mtc l p with
 | none=>exact hp
 | some m=>
  obtain ⟨h1,h2,h3⟩:=mtc_some hm
  exact (padd_mem (vM_MN (hin m h1) h2) h3 hp).2
theorem pre_sem {l:List api_Move} (hin:∀ m∈l,MIn m) {s:List Bx} (h0:(preA l s).2=0):VS (preA l s).1∧∀ p,vP tops5 p→mem (preA l s).1 p=mem (s.filter vB) (apP l p):=by
 unfold preA at h0 ⊢
 simp only at h0 ⊢
 have hv:VS (kp false (st s)).1:=(kp_vs (st_ok s).1).1
 have hsk:=@st_kp s
 generalize kp false (st s)=t at h0 hv hsk ⊢
 generalize ho:l.foldl (qstep t.1) (t.2,[],[full])=o at h0 ⊢
 have hok:=qfold_ok t.1 l (t.2,[],[full]) ⟨VS.nil,VS.full⟩
 rw [ho] at hok
 generalize hw:uI o.1 o.2.2 t.1=w at h0 ⊢
 have hwv:VS w.1:=by rw [← hw]; exact (uI_vs _ _ _).1
 have hfin:(uU w.2 o.2.1 w.1).2=false:=by
  cases h:(uU w.2 o.2.1 w.1).2 with
  | true=>rw [h] at h0; cases h0
  | false=>rfl
 have hres:resA ((uU w.2 o.2.1 w.1).2,(uU w.2 o.2.1 w.1).1)=((uU w.2 o.2.1 w.1).1,0):=by rw [hfin]; rfl
 rw [hres]
 obtain ⟨g1,gU⟩:=kp_sem hfin
 obtain ⟨g2,gI⟩:=kp_sem (show (kp o.1 (cmb oA o.2.2 t.1)).2=false by rw [← g1,← hw]; rfl)
 have g3:(l.foldl (qstep t.1) (t.2,[],[full])).1=false:=by rw [ho]; exact g2
 have g4:=qfold_mono _ _ _ g3
 obtain ⟨i1,i2⟩:=qfold_sem t.1 hv l (t.2,[],[full]) hin ⟨VS.nil,VS.full⟩ g3
 rw [ho] at i1 i2
 have es:=hsk g4
 refine ⟨(uU_vs _ _ _).1,fun p hp=>?_⟩
 have e1:mem (uU w.2 o.2.1 w.1).1 p=(mem o.2.1 p || mem w.1 p):=by
  have:=gU p hp; rw [memV_vs hok.o,memV_vs hwv] at this; exact this
 have e2:mem w.1 p=(mem o.2.2 p && mem t.1 p):=by
  have:=gI p hp; rw [memV_vs hok.r,memV_vs hv] at this; rw [← hw]; exact this
 show mem (uU w.2 o.2.1 w.1).1 p=_
 have ha:=apP_ok hin hp
 rw [e1,e2,← es _ ha,Bool.eq_iff_iff,Bool.or_eq_true,Bool.and_eq_true,i1 p hp,i2 p hp,mem_nil,mem_full hp]
 unfold apP
 cases hm:mtc l p with
 | none=>simp
 | some m=>simp
end Go.AM
set_option maxRecDepth 100000
namespace Go.AM
open Go
theorem MIn.mk' {m:api_Move} (h:MIn m) {b:Arr5 api_Range} (hb:BIn b):MIn { m with To:=b }:=⟨h.f,hb⟩
theorem u32sub {a:Int} (h0:0≤a) (h1:a≤65535):IntKind.wrap .u32 (65535 - a)=65535 - a:=wu32 (by omega) (by omega)
theorem RIn.mk' {a b:Int} (h0:0≤a) (h1:a<4294967296):RIn ⟨a,IntKind.wrap .u32 b⟩:=⟨h0,h1,(wu32_range b).1,(wu32_range b).2⟩
theorem Move_ok {t:nsggen_Tape} (ht:TOk t):Ok (Zd1 t) fun r=>MIn r.1∧TOk r.2:=by
 unfold Zd1
 rw [Full_eq]
 refine Ok.lift ?_
 refine Ok.bind (Next_lt ht 2 (by omega) (by omega)) fun r3 ⟨⟨a0,a1⟩,h3⟩=>?_
 refine Ok.bind (Ok.idx (p:=fun x=>0≤x∧x<4294967296) a0 (by simpa using a1) fun x hx=>?_) fun x5 hx5=>?_
 ·simp only [List.mem_cons,List.not_mem_nil,or_false] at hx
  omega
 refine Ok.bind (Next_lt h3 2 (by omega) (by omega)) fun r7 ⟨⟨a0,a1⟩,h7⟩=>?_
 refine Ok.bind (Ok.idx (p:=fun x=>0≤x∧x<4294967296) a0 (by simpa using a1) fun x hx=>?_) fun x9 hx9=>?_
 ·simp only [List.mem_cons,List.not_mem_nil,or_false] at hx
  omega
 refine Ok.bind (Number_ok h7 (by omega) (by omega)) fun r11 ⟨⟨b0,b1⟩,h11⟩=>?_
 refine Ok.bind (Next_lt h11 3 (by omega) (by omega)) fun r13 ⟨_,h13⟩=>?_
 refine Ok.bind (Next_lt h13 4 (by omega) (by omega)) fun r15 ⟨⟨c0,c1⟩,h15⟩=>?_
 refine Ok.bind (Next_lt h15 5 (by omega) (by omega)) fun r17 ⟨_,h17⟩=>?_
 refine Ok.bind Subnet_ok fun p hp=>Ok.bind (Of_ok hp) fun q hq=>?_
 refine Ok.bind (Number_ok h17 (by omega) (by omega)) fun r23 ⟨⟨d0,d1⟩,h23⟩=>Ok.ret ⟨?_,h23⟩
 have hl:=hq.rin (by omega)
 rw [u32sub b0 (by omega),wu32 c0 (by omega)]
 have hm:0≤iMin r15.1 (65535 - r11.1)∧iMin r15.1 (65535 - r11.1)≤3:=by unfold iMin; split <;> omega
 rw [u32sub hm.1 (by omega)]
 have hn:0≤iMin r23.1 (65535 - iMin r15.1 (65535 - r11.1))∧iMin r23.1 (65535 - iMin r15.1 (65535 - r11.1))≤65000:=by unfold iMin; split <;> omega
 exact ⟨⟨full_ok.bin.h0,RIn.mk' hx9.1 hx9.2,⟨hx5.1,hx5.2,hx5.1,hx5.2⟩,full_ok.bin.h3,RIn.mk' b0 (by omega)⟩,⟨full_ok.bin.h0,RIn.mk' hl.h0 hl.h1,⟨hx5.1,hx5.2,hx5.1,hx5.2⟩,full_ok.bin.h3,RIn.mk' hn.1 (by omega)⟩⟩
theorem Moves_L1_ok (wild:Bool):∀ (n:Nat) (t:nsggen_Tape) (l:List api_Move) (i:Int),TOk t→(∀ x∈l,MIn x)→i≤n→0≤i→i<100→(l.length:Int) + i<1000 →
  Ok (Zbk wild (n + 1) t l i) fun r=>TOk r.1∧(∀ x∈r.2,MIn x)∧(r.2.length:Int)=l.length + i
 | 0,t,l,i,ht,hl,hi,h0,h9,hlen=>by
  rw [Zbk]
  exact Ok.ite (fun hc=>absurd (of_decide_eq_true hc) (by omega)) fun _=>Ok.ret ⟨ht,hl,by show (l.length:Int)=_; omega⟩
 | n + 1,t,l,i,ht,hl,hi,h0,h9,hlen=>by
  rw [Zbk]
  refine Ok.ite (fun hc=>?_) fun hc=>Ok.ret ⟨ht,hl,by simp at hc; show (l.length:Int)=_; omega⟩
  have hc:=of_decide_eq_true hc
  refine Ok.bind (p:=fun r=>TOk r.1∧(∀ x∈r.2,MIn x)∧r.2.length=l.length + 1) ?_ fun r ⟨h1,h2,h3⟩=>?_
  ·refine Ok.bind (Move_ok ht) fun q ⟨g1,g2⟩=>?_
   refine Ok.bind (p:=fun o=>TOk o.1∧MIn o.2) ?_ fun o ⟨k1,k2⟩=>?_
   ·refine Ok.lift ?_
    refine Ok.bind (p:=fun v=>TOk v.2) ?_ fun v k1=>?_
    ·refine Ok.ite (fun hw=>?_) fun _=>Ok.ret g2
     exact Ok.bind (Next_lt g2 6 (by omega) (by omega)) fun r190 ⟨_,h6⟩=>Ok.ret h6
    ·refine Ok.ite (fun hv=>?_) fun _=>Ok.ret ⟨k1,g1⟩
     exact Ok.bind (SpoilBox_ok k1 g1.t) fun r196 ⟨m1,m2⟩=>Ok.ret ⟨m2,g1.f,m1⟩
   ·obtain ⟨o1,o2⟩:=o
    refine Ok.bind (p:=fun o=>TOk o.1∧MIn o.2) ?_ fun o ⟨k1,k2⟩=>?_
    ·refine Ok.lift ?_
     refine Ok.bind (p:=fun v=>TOk v.2) ?_ fun v k3=>?_
     ·refine Ok.ite (fun hw=>?_) fun _=>Ok.ret k1
      exact Ok.bind (Next_lt k1 6 (by omega) (by omega)) fun r190 ⟨_,h6⟩=>Ok.ret h6
     ·exact Ok.ite (fun hv=>Ok.ret ⟨k3,k2.t,k2.f⟩) fun _=>Ok.ret ⟨k3,k2⟩
    ·obtain ⟨o1,o2⟩:=o
     refine Ok.chk (by simp only [List.length_singleton]; unfold lim; omega) (Ok.ret ⟨k1,fun x hx=>?_,by simp⟩)
     rcases List.mem_append.1 hx with hx | hx
     ·exact hl x hx
     ·simp only [List.mem_singleton] at hx; subst hx; exact k2
  ·obtain ⟨r1,r2⟩:=r
   simp only at h1 h2 h3
   show Ok (Zbk wild (n + 1) r1 r2 (IntKind.wrap .i64 (i - 1))) _
   rw [wi64 (by omega) (by omega)]
   refine (Moves_L1_ok wild n r1 r2 (i - 1) h1 h2 (by omega) (by omega) (by omega) (by omega)).mono fun v ⟨e1,e2,e3⟩=>⟨e1,e2,?_⟩
   omega
theorem Moves_ok (wild:Bool) {t:nsggen_Tape} (ht:TOk t) {n:Int} (h0:0≤n) (h1:n<90):Ok (Zdt t n wild) fun r=>(∀ x∈r.1,MIn x)∧(r.1.length:Int)≤n∧TOk r.2:=by
 unfold Zdt
 rw [wi64 (x:=n + 1) (by omega) (by omega)]
 refine Ok.bind (Next_lt ht (n + 1) (by omega) (by omega)) fun r ⟨⟨h2,h3⟩,h4⟩=>?_
 refine Ok.bind (Moves_L1_ok wild 1180591620717411303423 r.2 [] r.1 h4 (by simp) (by omega) h2 (by omega) (by simp; omega)) fun q ⟨g1,g2,g3⟩=>?_
 obtain ⟨q1,q2⟩:=q
 refine Ok.ret ⟨g2,?_,g1⟩
 simp at g3
 show (q2.length:Int)≤n
 omega
end Go.AM
set_option maxRecDepth 100000
namespace Go.AM
open Go
end Go.AM
set_option maxRecDepth 100000
namespace Go.AM
open Go
theorem CFb.nil_iff {l:List Bx} (h:CFb l):l=[] ↔ ∀ p,vP tops5 p→mem l p=false:=
 ⟨fun e p _=>by rw [e]; rfl,fun e=>h.inj CFb.nil fun p hp=>by rw [e p hp]; rfl⟩
theorem rSubset_eq {a b:List Bx} (ha:VS a) (hb:VS b):∃ r,Zdy a b=some r∧(r=true ↔ ∀ p,vP tops5 p→mem a p=true→mem b p=true):=by
 have la:=ha.len
 have lb:=hb.len
 have hC:=can_spec oW a b
 unfold Zdy
 rw [rvalid_eq (by omega),rvalid_eq (by omega)]
 simp only [Option.bind_some]
 rw [List.filter_eq_self.2 fun x hx=>ok_vB (ha.ok x hx),List.filter_eq_self.2 fun x hx=>ok_vB (hb.ok x hx)]
 rw [rests_top (k:=2) (by omega) ha.ok hb.ok (by rw [opc2]; exact hC) (hC.size2 rfl ha.cf hb.cf ha.len hb.len)]
 refine ⟨_,rfl,?_⟩
 have e:(((can oW a b).length:Int) == (0:Int))=true ↔ can oW a b=[]:=by simp
 rw [e,hC.cf.nil_iff]
 constructor
 ·intro h p hp hm
  have:=h p hp
  rw [hC.mem p hp,oW,hm] at this
  simpa using this
 ·intro h p hp
  rw [hC.mem p hp,oW]
  cases hm:mem a p with
  | false=>rfl
  | true=>rw [h p hp hm]; rfl
theorem Set_ok {t:nsggen_Tape} (ht:TOk t) {n:Int} (h0:0≤n) (h1:n<90):Ok (Zei t n) fun r=>VS r.1∧TOk r.2:=by
 unfold Zei
 refine Ok.bind (Boxes_ok false ht h0 h1) fun r1 ⟨g1,g2,g3⟩=>?_
 rw [rMake_eq (by omega) (fun x hx=>(g1 x hx).1)]
 refine Ok.lift (Ok.ret ⟨?_,g3⟩)
 exact (mkF_ok (r1.1.filter vB) [] VS.nil).1.vs
theorem resA_ok {s:ISt} (h:ISok s):SetOr (resA s):=by
 unfold resA
 split
 ·exact ⟨VS.nil,Or.inr rfl⟩
 ·exact ⟨h.vs,Or.inl rfl⟩
theorem imageA_ok (l:List api_Move) (s:List Bx):SetOr (imageA l s):=resA_ok ⟨(uU_vs _ _ _).1,(uU_vs _ _ _).2⟩
theorem preA_ok (l:List api_Move) (s:List Bx):SetOr (preA l s):=resA_ok ⟨(uU_vs _ _ _).1,(uU_vs _ _ _).2⟩
end Go.AM
set_option maxRecDepth 100000
namespace Go.AM
open Go
theorem GB.bin {w:Bool} {l:List Bx} (h:∀ x∈l,GB w x):∀ x∈l,BIn x:=fun x hx=>(h x hx).1
theorem three {r:List Bx × Int} (h:SetOr r) (h0:r.2 ≠ 0):r.2=3:=by rw [h.three h0]
theorem RewriteGalois_card {t:List Int} (ht:Zjv t):Zds t=some true:=by
 have hsane:Zfc=some true:=rfl
 refine Ok.eq ?_
 unfold Zds
 refine Ok.bind (New_ok (Zle ht)) fun r1 h1=>Ok.bind (Moves_ok true h1 (by omega) (by omega)) fun r3 ⟨m1,m2,m3⟩=>Ok.bind (Set_ok m3 (by omega) (by omega)) fun r5 ⟨s1,_⟩=>?_
 have hl:r3.1.length≤100000:=by omega
 rw [Image_eq hl m1 s1.inL,Preimage_eq hl m1 s1.inL]
 have ia:=imageA_ok r3.1 r5.1
 have ib:=preA_ok r3.1 r5.1
 refine Ok.lift (Ok.lift (Ok.lift (Ok.ite (fun hc=>?_) fun hc=>?_)))
 ·have:((imageA r3.1 r5.1).2 == 3 || (preA r3.1 r5.1).2 == 3)=true:=by
   simp only [Bool.or_eq_true,bne_iff_ne,ne_eq,beq_iff_eq] at hc ⊢
   rcases hc with h | h
   ·exact Or.inl (three ia h)
   ·exact Or.inr (three ib h)
  simp only [Option.bind_some,this,if_true,hsane]
  exact Ok.ret rfl
 ·simp only [Bool.or_eq_true,bne_iff_ne,ne_eq,not_or,Classical.not_not] at hc
  obtain ⟨ea,eb⟩:=hc
  obtain ⟨va,ma⟩:=image_sem m1 ea
  obtain ⟨vb,mb⟩:=pre_sem m1 eb
  rw [Image_eq hl m1 vb.inL,Preimage_eq hl m1 va.inL]
  have ic:=imageA_ok r3.1 (preA r3.1 r5.1).1
  have id_:=preA_ok r3.1 (imageA r3.1 r5.1).1
  refine Ok.lift (Ok.lift (Ok.lift (Ok.ite (fun hc=>?_) fun hc=>?_)))
  ·have:((imageA r3.1 (preA r3.1 r5.1).1).2 == 3 || (preA r3.1 (imageA r3.1 r5.1).1).2 == 3)=true:=by
    simp only [Bool.or_eq_true,bne_iff_ne,ne_eq,beq_iff_eq] at hc ⊢
    rcases hc with h | h
    ·exact Or.inl (three ic h)
    ·exact Or.inr (three id_ h)
   simp only [Option.bind_some,this,if_true,hsane]
   exact Ok.ret rfl
  ·simp only [Bool.or_eq_true,bne_iff_ne,ne_eq,not_or,Classical.not_not] at hc
   obtain ⟨ec,ed⟩:=hc
   obtain ⟨vc,mc⟩:=image_sem m1 ec
   obtain ⟨vd,md⟩:=pre_sem m1 ed
   obtain ⟨x,ex,gx⟩:=rSubset_eq vc s1
   obtain ⟨y,ey,gy⟩:=rSubset_eq s1 vd
   have hx:x=true:=gx.2 fun p hp hm=>by
    obtain ⟨q,hq,h2,h3⟩:=(mc p hp).1 hm
    rw [memV_vs vb,mb q hq,memV_vs s1,h3] at h2
    exact h2
   have hy:y=true:=gy.2 fun p hp hm=>by
    rw [md p hp,memV_vs va]
    exact (ma _ (apP_ok m1 hp)).2 ⟨p,hp,by rw [memV_vs s1]; exact hm,rfl⟩
   rw [ex,ey,hx,hy]
   simp only [Option.bind_some,if_true,hsane]
   exact Ok.ret rfl
end Go.AM

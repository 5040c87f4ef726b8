/- Parts of a proof, printed short. No condition. -/
import Derived.Test.YtkeeaccnnljimaaGreatDoorImQ5
set_option maxRecDepth 100000
namespace Go.AM
open Go
abbrev RL:=List Zb
theorem CF_len:∀(ts:List Int) {l:List RL},CF ts l→∀ b∈l,b.length=ts.length
 | [],l,h,b,hb=>by
  rcases h with rfl | rfl
  ·cases hb
  ·rw [List.mem_singleton] at hb; rw [hb]; rfl
 | t :: ts,l,⟨c,h1,h2,h3⟩,b,hb=>by
  subst h1
  obtain⟨x,hx,hb⟩:=List.mem_flatMap.1 hb
  obtain⟨b',hb',rfl⟩:=List.mem_map.1 hb
  rw [List.length_cons,List.length_cons,CF_len ts (h3 x hx) b' hb']
theorem Ord.len {t:Int}:∀ {c:List Cell},Ord t c→c.length≤(flt c).length
 | [],_=>Nat.le_refl _
 | x :: c,h=>by
  have hx:=(h.ok x (List.mem_cons_self ..)).2.2.2
  have:=Ord.len h.tail
  rw [Zhw,List.length_append,List.length_map,List.length_cons]
  have:0<x.2.length:=List.length_pos_iff.2 hx
  omega
theorem lk_le (c:List Cell) {t:Int} (h:Ord t c) (v:Int):(lk c v).length≤(flt c).length:=by
 by_cases hv:lk c v=[]
 ·rw [hv]; simp
 ·obtain⟨x,hx,h1,h2⟩:=Zli hv
  rw [lk_mem h hx h1 h2]
  obtain⟨a,b,rfl⟩:=List.append_of_mem hx
  rw [Zez,Zhw,List.length_append,List.length_append,List.length_map]
  omega
theorem Zm5 {f:Nat} (h:f≤5) {l l':List RL} (hl:∀ b∈l,b.length=5 - f) (hl':∀ b∈l',b.length=5 - f):l.map (pad f)=l'.map (pad f) ↔ l=l':=by
 constructor
 ·intro e
  have:=congrArg (List.map (sf f)) e
  rw [List.map_map,List.map_map] at this
  have h1:∀ {m:List RL},(∀ b∈m,b.length=5 - f)→m.map (sf f ∘ pad f)=m:=fun {m} hm=>by
   conv=>rhs; rw [← List.map_id m]
   exact List.map_congr_left fun b hb=>sf_pad h (hm b hb)
  rw [h1 hl,h1 hl'] at this
  exact this
 ·rintro rfl; rfl
def gr1 (f:Nat) (x:Cell):Zg:=⟨x.1,x.2.map (pad (f + 1))⟩
def gr (f:Nat) (c:List Cell):List Zg:=c.map (gr1 f)
theorem gr_len (f:Nat) (c:List Cell):(gr f c).length=c.length:=List.length_map _
theorem Zp9 (f:Nat) (d:List Cell) (y:Cell):gr f (d++[y])=gr f d++[gr1 f y]:=by unfold gr; rw [List.map_append]; rfl
theorem Z0n {α:Type} (l:List α) (x:α) (h:l.length≤1000000000):idx (l++[x]) (IntKind.wrap .i64 (((l++[x]).length:Int) - (1:Int)))=some x:=by
 rw [List.length_append,List.length_singleton,wi64 (by omega) (by omega),show ((l.length + 1:Nat):Int) - 1=((l.length:Nat):Int) by omega,Z1 (by simp)]
 simp
theorem Z0o {α:Type} (l:List α) (x y:α) (h:l.length≤1000000000):(l++[x]).set (Int.toNat (IntKind.wrap .i64 (((l++[x]).length:Int) - (1:Int)))) y=l++[y]:=by
 rw [List.length_append,List.length_singleton,wi64 (by omega) (by omega),show (((l.length + 1:Nat):Int) - 1).toNat=l.length by omega,List.set_append_right _ _ (Nat.le_refl _),Nat.sub_self]
 rfl
def capd (m:Nat) (f:Nat) (l:List RL):List Bx × Bool:=if l.length≤m then (l.map (pad f),true) else ([],false)
theorem Zu4 (c:List Cell) (lo hi:Int) (rest:List RL):rest.length≤(flt (joinC c lo hi rest)).length:=by
 unfold joinC
 split
 ·rename_i h; rw [h]; simp
 ·split
  ·split
   ·rw [Zez,List.length_append,Zg3]; omega
   ·rw [Zez,List.length_append,Zg3]; omega
  ·rw [Zez,List.length_append,Zg3]; omega
theorem Zwr {f:Nat} (hf:f<5) {a b:List Bx} (ha:a.length≤2000000000) (hb:b.length≤2000000000) {m:Nat} (hm:m≤100000)
  {z0:Int→List Bx→List Bx→Int→Option (List Bx × Bool)} {ps:List Int} (hps:ps.length≤1000000) {g:Int→List RL} (hg:∀ v,∀ b∈g v,b.length=5 - (f + 1))
  (hz:∀ v,0≤v→v≤topOf (f:Int)→z0 ((f + 1:Nat):Int) (cov a f v) (cov b f v) (m:Int)=some (capd m (f + 1) (g v))) :
  ∀(rem:List Int) (p:Int) (i n:Nat) (c:List Cell),ps.drop i=p :: rem→rem.length<n→Upto g p c→Steps g (p :: rem)→0≤p→(∀ x∈p :: rem,x≤topOf (f:Int) + 1)→(flt c).length≤m →
  Zy (f:Int) a b (m:Int) z0 ps n (gr f c) ((flt c).length:Int) (i:Int) =
   some (if (flt (runC g c (p :: rem))).length≤m then .inl (gr f (runC g c (p :: rem)),((flt (runC g c (p :: rem))).length:Int)) else .inr ([],false)):=by
 intro rem
 induction rem with
 | nil=>
  intro p i n c hd hn hu hs hp ht hc
  cases n with
  | zero=>simp at hn
  | succ n=>
  have hi:ps.length=i + 1:=by
   have h1:=congrArg List.length hd
   rw [List.length_drop] at h1
   simp at h1; omega
  rw [Zy,wsucc (by omega),if_neg (by simp; omega)]
  unfold runC
  rw [if_pos hc]
 | cons q rem ih=>
  intro p i n c hd hn hu hs hp ht hc
  cases n with
  | zero=>simp at hn
  | succ n=>
  obtain⟨hpq,hgc,hs'⟩:=hs
  have htop:=topN hf
  have hqt:=ht q (by simp)
  have hpt:p≤topOf (f:Int):=by omega
  have hlen:i + 2≤ps.length:=by
   have h1:=congrArg List.length hd
   rw [List.length_drop] at h1
   simp at h1; omega
  have gi:∀ j,(ps.drop i)[j]? = ps[i + j]?:=fun j=>List.getElem?_drop
  have h0:idx ps (i:Int)=some p:=by
   have h1:=gi 0
   rw [hd,Nat.add_zero] at h1
   simp only [List.getElem?_cons_zero] at h1
   rw [Z1 (by omega),← List.getElem?_eq_getElem,← h1]
  have h1:idx ps ((i + 1:Nat):Int)=some q:=by
   have h1:=gi 1
   rw [hd] at h1
   simp only [List.getElem?_cons_succ,List.getElem?_cons_zero] at h1
   rw [Z1 (by omega),← List.getElem?_eq_getElem,← h1]
  have hd':ps.drop (i + 1)=q :: rem:=by rw [← List.drop_drop,hd]; rfl
  have e1:IntKind.wrap .u32 p=p:=wu32 hp (by omega)
  have e2:IntKind.wrap .u32 (IntKind.wrap .u64 (q - (1:Int)))=q - 1:=by rw [wu64 (by omega) (by omega),wu32 (by omega) (by omega)]
  have hu':=hu.step hp hpq hgc
  have key:=ih q (i + 1) n (joinC c p (q - 1) (g p)) hd' (by simp at hn; omega) hu' hs' (by omega) (fun x hx=>ht x (List.mem_cons_of_mem _ hx))
  have hrun:runC g c (p :: q :: rem)=runC g (joinC c p (q - 1) (g p)) (q :: rem):=rfl
  have hfin:=Zmo g (q :: rem) (joinC c p (q - 1) (g p))
  have hjr:=Zu4 c p (q - 1) (g p)
  have hcl:=hu.ord.len
  rw [hrun]
  rw [Zy,wsucc (by omega),if_pos (by simp; omega),h0,h1]
  simp only [Option.bind_some,e1,e2]
  rw [Zq2 ha (by omega) (by omega),Zq2 hb (by omega) (by omega)]
  simp only [Option.bind_some]
  rw [wsucc (i:=f) (by omega),hz p hp hpt]
  simp only [Option.bind_some,capd]
  by_cases hgm:(g p).length≤m
  ·rw [if_pos hgm]
   simp only [Bool.not_true,Bool.false_eq_true,if_false,List.length_map]
   by_cases hg0:g p=[]
   ·have ej:joinC c p (q - 1) (g p)=c:=by unfold joinC; rw [if_pos hg0]
    rw [ej] at key ⊢
    rw [hg0]
    simp only [List.length_nil,Int.natCast_zero,beq_self_eq_true,if_true,Option.bind_some]
    exact key hc
   ·have hgl:0<(g p).length:=List.length_pos_iff.2 hg0
    rw [if_neg (show ¬ (((g p).length:Int) == (0:Int))=true by simp [hg0])]
    rcases List.eq_nil_or_concat c with rfl | ⟨d,y,rfl⟩
    ·
     have ej:joinC [] p (q - 1) (g p)=[(⟨p,q - 1⟩,g p)]:=by unfold joinC; rw [if_neg hg0]; rfl
     rw [ej] at key hfin ⊢
     rw [Zg3] at key hfin
     have e3:IntKind.wrap .i64 (((flt []).length:Int) + ((g p).length:Int))=((g p).length:Int):=by
      rw [show (flt []).length=0 from rfl,wi64 (by omega) (by omega)]; omega
     simp only [show gr f []=[] from rfl,List.length_nil,Int.natCast_zero,gt_iff_lt,Int.lt_irrefl,decide_false,Bool.false_eq_true,if_false,Option.bind_some,List.length_singleton,Nat.zero_add]
     rw [if_pos (show 1≤lim by unfold lim; omega)]
     simp only [show (flt []).length=0 from rfl,Int.natCast_zero] at e3 ⊢
     rw [e3,if_neg (show ¬ decide ((m:Int)<((g p).length:Int))=true by simp; omega)]
     simp only [Option.bind_some,List.nil_append]
     exact key hgm
    ·rw [List.concat_eq_append] at *
     have hgrl:(gr f d).length≤1000000000:=by rw [gr_len]; rw [List.length_append] at hcl; omega
     have hyo:=hu.ord.ok y (List.mem_append_right _ (List.mem_singleton.2 rfl))
     have hyg:∀ b∈y.2,b.length=5 - (f + 1):=by
      have h2:=hu.at_ y.1.Lo
      rw [lk_mem hu.ord (List.mem_append_right _ (List.mem_singleton.2 rfl)) (Int.le_refl _) hyo.2.1,if_pos (by omega)] at h2
      rw [h2]; exact hg _
     have hx2:idx (gr f (d++[y])) (IntKind.wrap .i64 (((gr f (d++[y])).length:Int) - (1:Int)))=some (gr1 f y):=by rw [Zp9]; exact Z0n _ _ hgrl
     have hpos:decide (((gr f (d++[y])).length:Int) > 0)=true:=by rw [gr_len]; simp
     have e4:IntKind.wrap .u32 (y.1.Hi + (1:Int))=y.1.Hi + 1:=wu32 (by omega) (by omega)
     rw [hpos]
     simp only [Option.bind_some,if_true,hx2]
     rw [show (gr1 f y).f_values.Hi=y.1.Hi from rfl,e4,show (gr1 f y).f_rest=y.2.map (pad (f + 1)) from rfl]
     rw [Zwn (by rw [List.length_map]; rw [Zez,List.length_append] at hc; obtain⟨yr,yrest⟩:=y; rw [Zg3] at hc; simp only at hc ⊢; omega)]
     have hmi:((y.2.map (pad (f + 1))=(g p).map (pad (f + 1))) ↔ y.2=g p):=Zm5 (by omega) hyg (hg p)
     simp only [hmi,Option.bind_some]
     have ej:joinC (d++[y]) p (q - 1) (g p)=if y.1.Hi + 1=p∧y.2=g p then d++[(⟨y.1.Lo,q - 1⟩,g p)] else (d++[y])++[(⟨p,q - 1⟩,g p)]:=by
      unfold joinC
      rw [if_neg hg0,List.getLast?_concat]
      simp only [List.dropLast_concat]
     by_cases hj:y.1.Hi + 1=p∧y.2=g p
     ·rw [if_pos hj] at ej
      rw [ej] at key hfin ⊢
      have hb1:(y.1.Hi + 1 == p)=true:=by simpa using hj.1
      rw [hb1]
      simp only [if_true,decide_eq_true hj.2,Option.bind_some]
      have e5:(flt (d++[(⟨y.1.Lo,q - 1⟩,g p)])).length=(flt (d++[y])).length:=by
       rw [Zez,Zez,List.length_append,List.length_append,Zg3]
       obtain⟨yr,yrest⟩:=y
       rw [Zg3]
       rw [← hj.2]
      rw [e5] at key hfin
      have e6:(gr f (d++[y])).set (Int.toNat (IntKind.wrap .i64 (((gr f (d++[y])).length:Int) - (1:Int)))) ({ gr1 f y with f_values:=({ (gr1 f y).f_values with Hi:=q - 1 }:Zb) }:Zg)=gr f (d++[(⟨y.1.Lo,q - 1⟩,g p)]):=by
       rw [Zp9,Z0o _ _ _ hgrl,Zp9]
       rw [show (gr1 f (⟨y.1.Lo,q - 1⟩,g p))=({ gr1 f y with f_values:=({ (gr1 f y).f_values with Hi:=q - 1 }:Zb) }:Zg) by unfold gr1; rw [hj.2]]
      have e7:({ f_values:={ Lo:=(gr1 f y).f_values.Lo,Hi:=q - 1 },f_rest:=y.2.map (pad (f + 1)) }:Zg)=({ gr1 f y with f_values:=({ (gr1 f y).f_values with Hi:=q - 1 }:Zb) }:Zg):=rfl
      first | rw [e6] | (rw [e7,e6])
      exact key hc
     ·rw [if_neg hj] at ej
      rw [ej] at key hfin ⊢
      have e8:(flt (d++[y]++[(⟨p,q - 1⟩,g p)])).length=(flt (d++[y])).length + (g p).length:=by
       rw [Zez,List.length_append,Zg3]
      rw [e8] at key hfin
      have e3:IntKind.wrap .i64 (((flt (d++[y])).length:Int) + ((g p).length:Int))=(((flt (d++[y])).length + (g p).length:Nat):Int):=by
       rw [wi64 (by omega) (by omega)]; omega
      have hcond:(if (y.1.Hi + 1 == p)=true then some (decide (y.2=g p)) else some false)=some false:=by
       by_cases h3:y.1.Hi + 1=p
       ·rw [if_pos (by simpa using h3),decide_eq_false fun h4=>hj ⟨h3,h4⟩]
       ·rw [if_neg (by simpa using h3)]
      rw [hcond]
      simp only [Option.bind_some,Bool.false_eq_true,if_false]
      rw [if_pos (show (gr f (d++[y])).length + [(Zg.mk (Zb.mk p (q - 1)) ((g p).map (pad (f + 1))))].length≤lim by rw [gr_len,List.length_singleton]; unfold lim; omega),e3]
      by_cases hsz:(flt (d++[y])).length + (g p).length≤m
      ·rw [if_neg (by simp; omega)]
       simp only [Option.bind_some]
       have:=key hsz
       rw [Zp9] at this
       exact this
      ·rw [if_pos (by simp; omega),if_neg (by omega)]
       rfl
  ·rw [if_neg hgm]
   simp only [Bool.not_false,if_true,Option.bind_some]
   rw [if_neg (by omega)]
end Go.AM
set_option maxRecDepth 100000
namespace Go.AM
open Go
theorem Zws {f:Nat} (hf:f<5) (x:Cell) (hx:∀ b∈x.2,b.length=4 - f) (acc:List Bx) (hl:acc.length + x.2.length≤2000000000) :
  Zz (f:Int) (gr1 f x) fuel acc 0=some (acc++(x.2.map (x.1 :: ·)).map (pad f)):=by
 have hlen:(x.2.map (pad (f + 1))).length=x.2.length:=List.length_map _
 have:=Zch (L:=Zz (f:Int) (gr1 f x)) (x.2.map (pad (f + 1))) (fun s _ y=>s++[Arr5.set y (f:Int) x.1]) id (fun i s=>s.length≤acc.length + i) (by omega) (fun n s i hi hs=>by
  rw [Zz]
  simp only [show (gr1 f x).f_rest=x.2.map (pad (f + 1)) from rfl,show (gr1 f x).f_values=x.1 from rfl,show ((i:Int)<((x.2.map (pad (f + 1))).length:Int)) from by omega,decide_true,if_true,Z1 hi,Option.bind_some,wsucc (by omega:i<1000000000001),List.length_singleton]
  rw [if_pos ⟨by omega,by omega⟩,if_pos (show s.length + 1≤lim by unfold lim; omega)]
  exact⟨rfl,by simp; omega⟩) (fun n s hs=>by rw [Zz]; simp [show (gr1 f x).f_rest=x.2.map (pad (f + 1)) from rfl]) acc (by omega)
 rw [this.1,Zii,List.map_map,List.map_map]
 simp only [id]
 congr 2
 exact List.map_congr_left fun b hb=>Zp6 hf (hx b hb) x.1
theorem Zwt {f:Nat} (hf:f<5) (c:List Cell) (hc:∀ x∈c,∀ b∈x.2,b.length=4 - f) (hl:(flt c).length≤2000000000) (hcl:c.length≤2000000000) :
  Zv (f:Int) (gr f c) fuel [] 0=some ((flt c).map (pad f)):=by
 have e:∀(d:List Cell) (acc:List Bx) (i:Nat),foldI (fun(s:List Bx) _ (y:Cell)=>s++(y.2.map (y.1 :: ·)).map (pad f)) acc i d=acc++(flt d).map (pad f):=by
  intro d
  induction d with
  | nil=>intro acc i; simp [foldI,flt]
  | cons x d ih=>intro acc i; simp only [foldI]; rw [ih,Zhw,List.map_append,List.append_assoc]
 have:=Zch (L:=Zv (f:Int) (gr f c)) c (fun s _ y=>s++(y.2.map (y.1 :: ·)).map (pad f)) id (fun i s=>s.length=(flt (c.take i)).length) (by omega) (fun n s i hi hs=>by
  have hi':i<(gr f c).length:=by rw [gr_len]; exact hi
  have hx:idx (gr f c) (i:Int)=some (gr1 f c[i]):=by rw [Z1 hi']; exact congrArg some (List.getElem_map ..)
  have tk:flt (c.take (i + 1))=flt (c.take i)++(c[i].2.map (c[i].1 :: ·)):=by
   rw [List.take_add_one,List.getElem?_eq_getElem hi,Zez]; simp [flt]
  have hle:(flt (c.take (i + 1))).length≤(flt c).length:=by
   conv=>rhs; rw [← List.take_append_drop (i + 1) c,Zez,List.length_append]
   omega
  have hle2:(flt (c.take (i + 1))).length=(flt (c.take i)).length + (c[i]).2.length:=by rw [tk,List.length_append,List.length_map]
  rw [Zv]
  rw [if_pos (by rw [gr_len]; simp; omega),hx]
  simp only [Option.bind_some]
  rw [Zws hf _ (hc _ (List.getElem_mem hi)) s (by omega)]
  simp only [Option.bind_some]
  rw [wsucc (by omega)]
  refine⟨rfl,?_⟩
  rw [List.length_append,List.length_map,List.length_map,hle2,hs]) (fun n s hs=>by rw [Zv]; simp [gr_len]) [] rfl
 rw [this.1,e]
 rfl
structure Canon (op:Bool→Bool→Bool) (C:Nat→Int→List Bx→List Bx→Int→Option (List Bx × Bool)):Prop where
 ff:op false false=false
 base:∀ nr a b m,C (nr + 1) 5 a b m=some (if op (decide ((a.length:Int) > 0)) (decide ((b.length:Int) > 0))=true then ([⟨zr,zr,zr,zr,zr⟩],true) else ([],true))
 step:∀ nr (f:Int) a b m,f ≠ 5→C (nr + 1) f a b m=if (IntKind.wrap .i64 ((a.length:Int) + (b.length:Int)) == (0:Int))=true then some ([],true) else
  (Zd4 f [a,b]).bind fun r12=>(Zy f a b m (C nr) r12 fuel [] 0 0).bind fun o=>match o with
   | .inl (v175,v176)=>if 0≤v176∧v176≤(lim:Int) then (Zv f v175 fuel [] 0).bind fun v=>some (v,true) else none
   | .inr r=>some r
theorem mS5 (a:List Bx):mS (a.map (sf 5)) []=decide ((a.length:Int) > 0):=by
 cases a with
 | nil=>rfl
 | cons b a=>
  have:decide (((b :: a).length:Int) > 0)=true:=by simp
  rw [this]
  show (mB (sf 5 b) [] || mS (a.map (sf 5)) [])=true
  rfl
theorem BOk.all {a:List Bx} (h:∀ x∈a,BOk x) (f v:Int):∀ x∈cov a f v,BOk x:=fun x hx=>h x (Z1g hx)
theorem level {op:Bool→Bool→Bool} {f:Nat} (hf:f<5) {a b:List Bx} {c:List Cell} {ps:List Int} (hps:Pts f (a++b) ps) (hL:Is op (topOf (f:Int) :: tops5.drop (f + 1)) (a.map (sf f)) (b.map (sf f)) (flt c)) (ho:Ord (topOf (f:Int)) c) (hc:∀ x∈c,CF (tops5.drop (f + 1)) x.2) :
  (∃ tl,ps=0 :: tl∧Steps (lk c) (0 :: tl)∧runC (lk c) [] (0 :: tl)=c)∧(∀ v,∀ b∈lk c v,b.length=4 - f) ∧
  ∀ v,0≤v→v≤topOf (f:Int)→Is op (tops5.drop (f + 1)) ((cov a f v).map (sf (f + 1))) ((cov b f v).map (sf (f + 1))) (lk c v):=by
 have hat:∀ v,0≤v→v≤topOf (f:Int)→Is op (tops5.drop (f + 1)) (atv (a.map (sf f)) v) (atv (b.map (sf f)) v) (lk c v):=fun v h0 h1=>Is.at_ ho hc hL h0 h1
 obtain⟨tl,rfl⟩:=hps.h0
 have hrng:∀ x∈(0:Int) :: tl,x≤topOf (f:Int) + 1:=by
  obtain⟨ys,hy⟩:=List.getLast?_eq_some_iff.1 hps.hl
  intro x hx
  have hp:=hps.asc
  rw [hy] at hx hp
  rcases List.mem_append.1 hx with h | h
  ·have:=(List.pairwise_append.1 hp).2.2 x h _ (List.mem_singleton.2 rfl); omega
  ·rw [List.mem_singleton] at h; omega
 have hcut:∀ l:List Bx,(∀ x∈l,x∈a++b)→Cut ((0:Int) :: tl) (l.map (sf f)):=by
  intro l hl x hx r b' e
  obtain⟨z,hz,rfl⟩:=List.mem_map.1 hx
  rw [Zks hf,List.cons.injEq] at e
  rw [← e.1]
  exact hps.cut z (hl z hz)
 have hsteps:Steps (lk c) (0 :: tl):=by
  refine Zwi (List.cons_ne_nil _ _) hps.asc fun i h v h1 h2=>?_
  have hx:=Zvk hps.asc h
  have hm:=List.pairwise_iff_getElem.1 hps.asc
  have h0i:0≤((0:Int) :: tl)[i]:=by
   rcases Nat.eq_zero_or_pos i with rfl | hi
   ·exact Int.le_refl _
   ·exact Int.le_of_lt (hm 0 i (by simp) (by omega) hi)
  have hti:=hrng _ (List.getElem_mem h)
  have key:∀ {l:List RL},Cut ((0:Int) :: tl) l→atv l v=atv l ((0:Int) :: tl)[i]:=fun hl=>
   Zz8 (fun b hb r b' e=>⟨hx _ (hl b hb r b' e).1,hx _ (hl b hb r b' e).2⟩) h1 h2
  have g1:=hat v (by omega) (by omega)
  rw [key (hcut a fun x hx=>List.mem_append_left _ hx),key (hcut b fun x hx=>List.mem_append_right _ hx)] at g1
  exact g1.inj (hat _ h0i (by omega))
 refine⟨⟨tl,rfl,hsteps,Z1c hsteps hps.hl ho fun v _ _=>rfl⟩,fun v b' hb'=>?_,fun v h0 h1=>by rw [Zx6 hf,Zx6 hf]; exact hat v h0 h1⟩
 have:=CF_len _ (CF_lk ho hc v) b' hb'
 rw [this,List.length_drop]
 show 5 - (f + 1)=4 - f
 omega
theorem Z0p {op:Bool→Bool→Bool} {C:Nat→Int→List Bx→List Bx→Int→Option (List Bx × Bool)} (hC:Canon op C) {m:Nat} (hm1:1≤m) (hm:m≤100000):∀(k f nr:Nat) (a b:List Bx) (l:List RL),f + k=5→k<nr→a.length + b.length≤400000→(∀ x∈a,BOk x)→(∀ x∈b,BOk x) →
  Is op (tops5.drop f) (a.map (sf f)) (b.map (sf f)) l→C nr (f:Int) a b (m:Int)=some (capd m f l):=by
 intro k
 induction k with
 | zero=>
  intro f nr a b l hf hn hl ha hb hL
  have hf:f=5:=by omega
  subst hf
  cases nr with
  | zero=>omega
  | succ nr=>
  have h1:=hL.mem [] trivial
  rw [mS5,mS5] at h1
  rw [show ((5:Nat):Int)=5 from rfl,hC.base,← h1]
  rcases hL.cf with rfl | rfl
  ·rfl
  ·rw [if_pos (show mS [[]] []=true from rfl)]
   unfold capd
   rw [if_pos (show ([[]]:List RL).length≤m from hm1)]
   rfl
 | succ k ih=>
  intro f nr a b l hf hn hl ha hb hL
  have hf5:f<5:=by omega
  cases nr with
  | zero=>omega
  | succ nr=>
  rw [Zmq hf5] at hL
  rw [hC.step nr (f:Int) a b _ (by omega)]
  rw [wi64 (by omega) (by omega)]
  by_cases h0:a.length + b.length=0
  ·rw [if_pos (by simp; omega)]
   have ha0:a=[]:=List.length_eq_zero_iff.1 (by omega)
   have hb0:b=[]:=List.length_eq_zero_iff.1 (by omega)
   subst ha0 hb0
   have:l=[]:=hL.inj ⟨CF_nil _,fun p hp=>by simp [mS,hC.ff]⟩
   rw [this]
   rfl
  ·rw [if_neg (by simp; omega)]
   obtain⟨ps,hp1,hp2⟩:=Z1i hf5 hl ha hb
   rw [hp1]
   simp only [Option.bind_some]
   obtain⟨c,rfl,ho,hc⟩:=hL.cf
   obtain⟨⟨tl,rfl,hs,hr⟩,hg,hz⟩:=level hf5 hp2 hL ho hc
   have hlen:=hp2.len
   rw [List.length_append] at hlen
   have hrng:∀ x∈(0:Int) :: tl,x≤topOf (f:Int) + 1:=by
    obtain⟨ys,hy⟩:=List.getLast?_eq_some_iff.1 hp2.hl
    intro x hx
    have hp:=hp2.asc
    rw [hy] at hx hp
    rcases List.mem_append.1 hx with h | h
    ·have:=(List.pairwise_append.1 hp).2.2 x h _ (List.mem_singleton.2 rfl); omega
    ·rw [List.mem_singleton] at h; omega
   have hmain:=Zwr hf5 (a:=a) (b:=b) (by omega) (by omega) (m:=m) hm (z0:=C nr) (ps:=0 :: tl) (by omega) (g:=lk c) (fun v b' hb'=>by rw [hg v b' hb']; omega) (fun v h0 h1=>by
    refine ih (f + 1) nr _ _ _ (by omega) (by omega) ?_ (BOk.all ha _ _) (BOk.all hb _ _) (hz v h0 h1)
    have:=Zp8 a (f:Int) v
    have:=Zp8 b (f:Int) v
    omega) tl 0 0 fuel [] rfl (by unfold fuel; simp only [List.length_cons] at hlen; omega) (Upto.nil _) hs (Int.le_refl _) hrng (Nat.zero_le _)
   rw [show gr f []=[] from rfl,show (flt []).length=0 from rfl,show ((0:Nat):Int)=0 from rfl,hr] at hmain
   rw [hmain]
   simp only [Option.bind_some]
   unfold capd
   have hcl:=ho.len
   by_cases hm2:(flt c).length≤m
   ·rw [if_pos hm2,if_pos hm2]
    simp only
    rw [if_pos ⟨by omega,by unfold lim; omega⟩,Zwt hf5 c (fun x hx b' hb'=>by
     have h2:=ho.ok x hx
     have:=hg x.1.Lo b' (by rw [lk_mem ho hx (Int.le_refl _) h2.2.1]; exact hb')
     exact this) (by omega) (by omega)]
    rfl
   ·rw [if_neg hm2,if_neg hm2]
theorem Zwu:Canon (fun x y=>x || y) Zae:=by
 refine⟨rfl,fun nr a b m=>?_,fun nr f a b m hf=>?_⟩
 ·rw [Zae,if_pos (by decide)]
  unfold Zev
  simp only [Option.bind_some]
  split <;> rfl
 ·rw [Zae,if_neg (by simpa using hf)]
  unfold Zev
  simp only [Option.bind_some,Bool.or_self,Bool.not_false]
  cases (IntKind.wrap .i64 ((a.length:Int) + (b.length:Int)) == (0:Int)) <;> rfl
theorem Z1k:@Zbn=@Zy:=by
 funext a0 a1 a2 a3 z0 r12 n
 induction n with
 | zero=>rfl
 | succ n ih=>funext v94 v95 v96; rw [Zbn,Zy,ih]
theorem Z1l:@Zbo=@Zz:=by
 funext a0 x n
 induction n with
 | zero=>rfl
 | succ n ih=>funext v w; rw [Zbo,Zz,ih]
theorem Z1m:@Zbp=@Zv:=by
 funext a0 x n
 induction n with
 | zero=>rfl
 | succ n ih=>funext v w; rw [Zbp,Zv,ih,Z1l]
theorem Zyw:Canon (fun x y=>x && y) Zai:=by
 refine⟨rfl,fun nr a b m=>?_,fun nr f a b m hf=>?_⟩
 ·rw [Zai,if_pos (by decide)]
  unfold Zfp
  simp only [Option.bind_some]
  split <;> rfl
 ·rw [Zai,if_neg (by simpa using hf),Z1k,Z1m]
  unfold Zfp
  simp only [Option.bind_some,Bool.and_self,Bool.not_false]
  cases (IntKind.wrap .i64 ((a.length:Int) + (b.length:Int)) == (0:Int)) <;> rfl
theorem Zyx:@Zbe=@Zy:=by
 funext a0 a1 a2 a3 z0 r12 n
 induction n with
 | zero=>rfl
 | succ n ih=>funext v94 v95 v96; rw [Zbe,Zy,ih]
theorem Zyy:@Zbf=@Zz:=by
 funext a0 x n
 induction n with
 | zero=>rfl
 | succ n ih=>funext v w; rw [Zbf,Zz,ih]
theorem Zyz:@Zbg=@Zv:=by
 funext a0 x n
 induction n with
 | zero=>rfl
 | succ n ih=>funext v w; rw [Zbg,Zv,ih,Zyy]
theorem Zvn:Canon (fun x y=>x && !y) Zad:=by
 refine⟨rfl,fun nr a b m=>?_,fun nr f a b m hf=>?_⟩
 ·rw [Zad,if_pos (by decide)]
  unfold Zen
  simp only [Option.bind_some]
  split <;> rfl
 ·rw [Zad,if_neg (by simpa using hf),Zyx,Zyz]
  unfold Zen
  simp only [Option.bind_some,Bool.not_false,Bool.false_and]
  cases (IntKind.wrap .i64 ((a.length:Int) + (b.length:Int)) == (0:Int)) <;> rfl
end Go.AM
set_option maxRecDepth 100000
namespace Go.AM
open Go
def opc (k:Int) (x y:Bool):Bool:=if k=0 then x || y else if k=1 then x && y else if k=2 then x && !y else !(x == y)
theorem Z0q (k:Int) (x y:Bool):Zg6 k x y=some (opc k x y):=by
 unfold Zg6 opc
 simp only [Option.bind_some,beq_iff_eq]
 split
 ·rfl
 ·split
  ·rfl
  ·split <;> rfl
theorem opc_ff (k:Int):opc k false false=false:=by
 unfold opc
 split
 ·rfl
 ·split
  ·rfl
  ·split <;> rfl
theorem Z1n (k:Int) (x y:Bool):∃ r,Zhn k x y=some r∧(r=true→∀ u w,(x=false→u=false)→(y=false→w=false)→opc k u w=false):=by
 unfold Zhn opc
 simp only [Option.bind_some,beq_iff_eq]
 by_cases h1:k=1
 ·subst h1
  refine⟨_,if_pos rfl,fun h u w hu hw=>?_⟩
  simp only [show ¬ (1:Int)=0 by decide,if_false,if_true]
  cases x
  ·rw [hu rfl]; rfl
  ·cases y
   ·rw [hw rfl]; simp
   ·cases h
 ·rw [if_neg h1]
  by_cases h2:k=2
  ·subst h2
   refine⟨_,if_pos rfl,fun h u w hu _=>?_⟩
   simp only [show ¬ (2:Int)=0 by decide,show ¬ (2:Int)=1 by decide,if_false,if_true]
   cases x
   ·rw [hu rfl]; rfl
   ·cases h
  ·rw [if_neg h2]
   refine⟨_,rfl,fun h u w hu hw=>?_⟩
   rw [if_neg h1,if_neg h2]
   cases x <;> cases y <;> simp at h
   rw [hu rfl,hw rfl]
   split <;> rfl
theorem Zxk {f:Nat} (hf:f<5) {e:Int} (h0:0≤e) (h1:e<4294967296):∀(k j n:Nat) (v:List Bx),v.length - j=k→k<n→j≤v.length→v.length≤2000000000 →
  Zd2 (f:Int) e n v (j:Int)=some (v.take j++(v.drop j).map fun x=>x.set (f:Int) ({ (x.get (f:Int)) with Hi:=e }:Zb)):=by
 intro k
 induction k with
 | zero=>
  intro j n v hk hn hj hl
  cases n with
  | zero=>omega
  | succ n=>
  rw [Zd2,if_neg (by simp; omega),List.take_of_length_le (by omega),List.drop_eq_nil_of_le (by omega)]
  simp
 | succ k ih=>
  intro j n v hk hn hj hl
  cases n with
  | zero=>omega
  | succ n=>
  have hjl:j<v.length:=by omega
  rw [Zd2,if_pos (by simp; omega),Z1 hjl]
  simp only [Option.bind_some,Int.toNat_natCast]
  rw [if_pos ⟨by omega,by omega⟩,wu32 h0 h1,wsucc (by omega),ih (j + 1) n _ (by rw [List.length_set]; omega) (by omega) (by rw [List.length_set]; omega) (by rw [List.length_set]; exact hl)]
  rw [List.drop_set_of_lt (by omega),List.take_add_one,List.getElem?_eq_getElem (by rw [List.length_set]; exact hjl),List.getElem_set_self,List.take_set_of_le (Nat.le_refl _),List.drop_eq_getElem_cons hjl,List.map_cons,List.append_assoc]
  rfl
theorem Zq4 {f:Nat} (hf:f<5) {r10:List Int} {i:Nat} {p e:Int} (hp:idx r10 (i:Int)=some p) (hp0:0≤p) (hp1:p<4294967296) (h0:0≤e) (h1:e<4294967296) (rest:List RL) (hr:∀ b∈rest,b.length=4 - f) (acc:List Bx) (hl:acc.length + rest.length≤2000000000) :
  Zc9 (f:Int) r10 (i:Int) e (rest.map (pad (f + 1))) fuel acc 0=some (acc++(rest.map ((⟨p,e⟩:Zb) :: ·)).map (pad f)):=by
 have hlen:(rest.map (pad (f + 1))).length=rest.length:=List.length_map _
 have:=Zch (L:=Zc9 (f:Int) r10 (i:Int) e (rest.map (pad (f + 1)))) (rest.map (pad (f + 1))) (fun s _ y=>s++[Arr5.set y (f:Int) ⟨p,e⟩]) id (fun i s=>s.length≤acc.length + i) (by omega) (fun n s j hj hs=>by
  rw [Zc9]
  simp only [show ((j:Int)<((rest.map (pad (f + 1))).length:Int)) from by omega,decide_true,if_true,Z1 hj,hp,Option.bind_some,wsucc (by omega:j<1000000000001),List.length_singleton,wu32 hp0 hp1,wu32 h0 h1]
  rw [if_pos ⟨by omega,by omega⟩,if_pos (show s.length + 1≤lim by unfold lim; omega)]
  exact⟨rfl,by simp; omega⟩) (fun n s hs=>by rw [Zc9]; simp) acc (by omega)
 rw [this.1,Zii,List.map_map,List.map_map]
 simp only [id]
 congr 2
 exact List.map_congr_left fun b hb=>Zp6 hf (hr b hb) _
theorem Zzo {g:Int→List RL} {p q:Int} {c:List Cell} (hu:Upto g p c) (hg0:g p ≠ []):joinC c p q (g p) =
  if 0<p∧g (p - 1)=g p then match c.getLast? with
   | some y=>c.dropLast++[(⟨y.1.Lo,q⟩,g p)]
   | none=>c++[(⟨p,q⟩,g p)]
  else c++[(⟨p,q⟩,g p)]:=by
 unfold joinC
 rw [if_neg hg0]
 cases hl:c.getLast? with
 | none=>simp
 | some y=>
  obtain⟨d,rfl⟩:=List.getLast?_eq_some_iff.1 hl
  have hy:=hu.ord.ok y (List.mem_append_right _ (List.mem_singleton.2 rfl))
  simp only
  by_cases hj:y.1.Hi + 1=p∧y.2=g p
  ·rw [if_pos hj]
   have h1:=hu.at_ y.1.Hi
   rw [lk_mem hu.ord (List.mem_append_right _ (List.mem_singleton.2 rfl)) hy.2.1 (Int.le_refl _),if_pos (by omega)] at h1
   rw [if_pos ⟨by omega,by rw [show p - 1=y.1.Hi by omega,← h1,hj.2]⟩]
  ·rw [if_neg hj,if_neg]
   rintro⟨h1,h2⟩
   have h3:=hu.at_ (p - 1)
   rw [if_pos (by omega),h2] at h3
   obtain⟨x,hx,h4,h5⟩:=Zli (c:=d++[y]) (v:=p - 1) (by rw [h3]; exact hg0)
   have hxo:=hu.ord.ok x hx
   rw [lk_mem hu.ord hx h4 h5] at h3
   rcases List.mem_append.1 hx with hxd | hxd
   ·have:=((List.pairwise_append.1 hu.ord.pw).2.2 x hxd y (List.mem_singleton.2 rfl)).1
    omega
   ·rw [List.mem_singleton] at hxd
    subst hxd
    exact hj ⟨by omega,h3⟩
theorem set_set {f:Nat} (b:Bx) (r s:Zb):(b.set (f:Int) r).set (f:Int) s=b.set (f:Int) s:=by
 unfold Arr5.set
 split
 ·rfl
 ·split
  ·rfl
  ·split
   ·rfl
   ·split <;> rfl
theorem Z1o (c:List Cell) (p q:Int) (g:Int→List RL):(g p).length≤(flt (joinC c p (q - 1) (g p))).length:=Zu4 c p (q - 1) (g p)
theorem Zxl {f:Nat} (hf:f<5) {a b:List Bx} (ha:a.length≤2000000000) (hb:b.length≤2000000000) (hai:∀ x∈a,BIn x) (hbi:∀ x∈b,BIn x) {k:Int}
  {z0:List Bx→List Bx→Int→Int→Option (List Bx)} {ss:List Int} (hss:ss.length≤1000000) {g:Int→List RL} (hg:∀ v,∀ b∈g v,b.length=5 - (f + 1))
  (hz:∀ v,0≤v→v≤topOf (f:Int)→z0 (cov a f v) (cov b f v) k ((f + 1:Nat):Int)=some ((g v).map (pad (f + 1)))) :
  ∀(rem:List Int) (p:Int) (i n:Nat) (c:List Cell) (last:List Bx),(ss++[topOf (f:Int) + 1]).drop i=p :: rem→rem.length<n→Upto g p c→Steps g (p :: rem)→0≤p→(i=0 ↔ p=0)→(0<p→last=(g (p - 1)).map (pad (f + 1)))→(flt (runC g c (p :: rem))).length≤2000000000 →
  Zd3 a b k (f:Int) z0 ss n ((flt c).map (pad f)) last (i:Int)=some ((flt (runC g c (p :: rem))).map (pad f)):=by
 intro rem
 induction rem with
 | nil=>
  intro p i n c last hd hn hu hs hp hi0 hlast hc
  cases n with
  | zero=>simp at hn
  | succ n=>
  have hi:ss.length=i:=by
   have h1:=congrArg List.length hd
   rw [List.length_drop,List.length_append] at h1
   simp at h1; omega
  rw [Zd3,if_neg (by simp; omega)]
  rfl
 | cons q rem ih=>
  intro p i n c last hd hn hu hs hp hi0 hlast hc
  cases n with
  | zero=>simp at hn
  | succ n=>
  obtain⟨hpq,hgc,hs'⟩:=hs
  have htop:=topN hf
  have hlen:i + 1≤ss.length:=by
   have h1:=congrArg List.length hd
   rw [List.length_drop,List.length_append] at h1
   simp at h1; omega
  have gi:∀ j,((ss++[topOf (f:Int) + 1]).drop i)[j]? = (ss++[topOf (f:Int) + 1])[i + j]?:=fun j=>List.getElem?_drop
  have h0:idx ss (i:Int)=some p:=by
   have h1:=gi 0
   rw [hd,Nat.add_zero,List.getElem?_append_left (by omega)] at h1
   simp only [List.getElem?_cons_zero] at h1
   rw [Z1 (by omega),← List.getElem?_eq_getElem,← h1]
  have hd':(ss++[topOf (f:Int) + 1]).drop (i + 1)=q :: rem:=by rw [← List.drop_drop,hd]; rfl
  have hasc:∀(l:List Int) (x:Int),Steps g (x :: l)→∀ y,(x :: l).getLast? = some y→x≤y:=by
   intro l
   induction l with
   | nil=>intro x _ y hy; simp at hy; omega
   | cons z l ih2=>
    intro x hx y hy
    rw [List.getLast?_cons_cons] at hy
    have:=ih2 z hx.2.2 y hy
    have:=hx.1
    omega
  have hqt:q≤topOf (f:Int) + 1:=by
   refine hasc rem q hs' _ ?_
   rw [← hd',List.getLast?_drop,if_neg (by rw [List.length_append]; simp; omega),List.getLast?_concat]
  have hpt:p≤topOf (f:Int):=by omega
  have hend:(if (decide ((IntKind.wrap .i64 ((i:Int) + (1:Int)))<(List.length ss:Int)))=true then
    (idx ss (IntKind.wrap .i64 ((i:Int) + (1:Int)))).bind fun(x486:Int)=>
    some (IntKind.wrap .u64 (x486 - (1:Int)))
   else
    some (IntKind.wrap .u64 (topOf (f:Int))))=some (q - 1):=by
   rw [wsucc (by omega)]
   have h1:=gi 1
   rw [hd] at h1
   simp only [List.getElem?_cons_succ,List.getElem?_cons_zero] at h1
   by_cases hi2:i + 1<ss.length
   ·rw [if_pos (by simp; omega)]
    rw [List.getElem?_append_left hi2,List.getElem?_eq_getElem hi2,Option.some.injEq] at h1
    rw [Z1 hi2,← h1]
    simp only [Option.bind_some]
    rw [wu64 (by omega) (by omega)]
   ·rw [if_neg (by simp; omega)]
    rw [List.getElem?_append_right (by omega),show i + 1 - ss.length=0 by omega] at h1
    simp only [List.getElem?_cons_zero,Option.some.injEq] at h1
    rw [wu64 (by omega) (by omega),h1]
    congr 1
    omega
  have e1:IntKind.wrap .u32 p=p:=wu32 hp (by omega)
  have hu':=hu.step hp hpq hgc
  have hq1:g (q - 1)=g p:=hgc _ (by omega) (by omega)
  have hrun:runC g c (p :: q :: rem)=runC g (joinC c p (q - 1) (g p)) (q :: rem):=rfl
  rw [hrun] at hc ⊢
  have hfin:=Zmo g (q :: rem) (joinC c p (q - 1) (g p))
  have key:=ih q (i + 1) n (joinC c p (q - 1) (g p)) ((g p).map (pad (f + 1))) hd' (by simp at hn; omega) hu' hs' (by omega) (by omega) (fun _=>by rw [hq1]) hc
  rw [Zd3,if_pos (by simp; omega),Top_eq _ (by omega) (by omega)]
  simp only [Option.bind_some,hend,h0]
  rw [at_eq ha (by omega) (by omega) _ hai,at_eq hb (by omega) (by omega) _ hbi]
  simp only [Option.bind_some]
  rw [wsucc (i:=f) (by omega),hz p hp hpt]
  simp only [Option.bind_some,List.length_map]
  by_cases hg0:g p=[]
  ·have ej:joinC c p (q - 1) (g p)=c:=by unfold joinC; rw [if_pos hg0]
   rw [ej] at key ⊢
   rw [hg0]
   have h3:=Zq4 hf h0 hp (by omega) (e:=q - 1) (by omega) (by omega) [] (fun _ h=>(by cases h)) ((flt c).map (pad f)) (by
    have:=Zmo g (q :: rem) c
    rw [ej] at hfin hc
    rw [List.length_map]; simp; omega)
   simp only [List.map_nil,List.append_nil] at h3
   have hb2:(decide ((i:Int) > 0) && decide (((([]:List RL).length:Nat):Int) > 0))=false:=by simp
   rw [hb2]
   simp only [Bool.false_eq_true,if_false,Option.bind_some,List.map_nil,h3]
   rw [wsucc (by omega)]
   rw [hg0] at key
   exact key
  ·have hgl:0<(g p).length:=List.length_pos_iff.2 hg0
   have hj:=Zzo (q:=q - 1) hu hg0
   have hb2:(decide ((i:Int) > 0) && decide (((g p).length:Int) > 0))=decide (0<p):=by
    rw [Bool.eq_iff_iff]; simp; omega
   rw [hb2]
   by_cases hjj:0<p∧g (p - 1)=g p
   ·rw [if_pos hjj] at hj
    rw [hlast hjj.1,hjj.2,decide_eq_true hjj.1]
    simp only [if_true]
    rw [Zuc (by rw [List.length_map]; have:=Z1o c p q g; omega)]
    simp only [decide_true,Option.bind_some,if_true]
    have h3:=hu.at_ (p - 1)
    rw [if_pos (by omega),hjj.2] at h3
    cases hl:c.getLast? with
    | none=>
     rw [List.getLast?_eq_none_iff] at hl
     subst hl
     exact absurd h3.symm hg0
    | some y=>
     rw [hl] at hj
     obtain⟨d,rfl⟩:=List.getLast?_eq_some_iff.1 hl
     simp only [List.dropLast_concat] at hj
     rw [hj] at key hfin hc ⊢
     have hy2:y.2=g p:=by
      have hjo:=hj
      unfold joinC at hjo
      rw [if_neg hg0,List.getLast?_concat] at hjo
      simp only [List.dropLast_concat] at hjo
      split at hjo
      ·rename_i hh; exact hh.2
      ·have:=congrArg List.length hjo
       simp at this
     have hyr:∀ b∈y.2,b.length=4 - f:=fun b hb=>by rw [hy2] at hb; have:=hg p b hb; omega
     have hfl:flt (d++[y])=flt d++y.2.map (y.1 :: ·):=by rw [Zez]; simp [flt]
     have hfl2:flt (d++[((⟨y.1.Lo,q - 1⟩:Zb),g p)])=flt d++(g p).map ((⟨y.1.Lo,q - 1⟩:Zb) :: ·):=by rw [Zez]; simp [flt]
     have hlen2:(flt (d++[y])).length=(flt d).length + (g p).length:=by rw [hfl,List.length_append,List.length_map,hy2]
     have hlen3:(flt (d++[((⟨y.1.Lo,q - 1⟩:Zb),g p)])).length=(flt d).length + (g p).length:=by rw [hfl2,List.length_append,List.length_map]
     rw [hlen3] at hfin
     rw [hlen2,wi64 (by omega) (by omega),show (((flt d).length + (g p).length:Nat):Int) - ((g p).length:Int)=(((flt d).length:Nat):Int) by omega]
     rw [Zxk hf (by omega) (by omega) _ _ fuel _ rfl (by rw [List.length_map,hlen2]; unfold fuel; omega) (by rw [List.length_map,hlen2]; omega) (by rw [List.length_map,hlen2]; omega)]
     simp only [Option.bind_some]
     rw [wsucc (by omega)]
     have e9:((flt (d++[y])).map (pad f)).take (flt d).length++(((flt (d++[y])).map (pad f)).drop (flt d).length).map (fun x=>x.set (f:Int) ({ (x.get (f:Int)) with Hi:=q - 1 }:Zb))=(flt (d++[((⟨y.1.Lo,q - 1⟩:Zb),g p)])).map (pad f):=by
      rw [hfl,hfl2,List.map_append,List.take_left' (by rw [List.length_map]),List.drop_left' (by rw [List.length_map]),List.map_append,hy2,List.map_map,List.map_map,List.map_map]
      congr 1
      refine List.map_congr_left fun b hb=>?_
      have hb4:b.length=4 - f:=hyr b (by rw [hy2]; exact hb)
      have hsf:sf f (pad f (y.1 :: b))=y.1 :: b:=sf_pad (by omega) (by rw [List.length_cons]; omega)
      show (pad f (y.1 :: b)).set (f:Int) ({ ((pad f (y.1 :: b)).get (f:Int)) with Hi:=q - 1 }:Zb)=pad f (⟨y.1.Lo,q - 1⟩ :: b)
      have hget:(pad f (y.1 :: b)).get (f:Int)=y.1:=by
       rw [Zks hf,List.cons.injEq] at hsf
       exact hsf.1
      rw [hget,← Zp6 hf hb4 y.1,set_set,Zp6 hf hb4]
     rw [e9]
     have:=key
     exact this
   ·rw [if_neg hjj] at hj
    rw [hj] at key hfin hc ⊢
    have hfl2:flt (c++[((⟨p,q - 1⟩:Zb),g p)])=flt c++(g p).map ((⟨p,q - 1⟩:Zb) :: ·):=by rw [Zez]; simp [flt]
    have hlen3:(flt (c++[((⟨p,q - 1⟩:Zb),g p)])).length=(flt c).length + (g p).length:=by rw [hfl2,List.length_append,List.length_map]
    rw [hlen3] at hfin
    have hcond:(if decide (0<p)=true then (Zfn ((g p).map (pad (f + 1))) last).bind fun(r503:Bool)=>some r503 else some false)=some false:=by
     by_cases h3:0<p
     ·rw [if_pos (decide_eq_true h3),hlast h3,Zuc (by rw [List.length_map]; omega)]
      simp only [Option.bind_some]
      rw [decide_eq_false]
      intro he
      exact hjj ⟨h3,((Zm5 (by omega) (hg p) (hg (p - 1))).1 he).symm⟩
     ·rw [if_neg (by simpa using h3)]
    rw [hcond]
    simp only [Option.bind_some,Bool.false_eq_true,if_false]
    rw [Zq4 hf h0 hp (by omega) (e:=q - 1) (by omega) (by omega) (g p) (fun b hb=>by have:=hg p b hb; omega) ((flt c).map (pad f)) (by rw [List.length_map]; omega)]
    simp only [Option.bind_some]
    rw [wsucc (by omega)]
    rw [hfl2,List.map_append] at key
    exact key
end Go.AM
set_option maxRecDepth 100000
namespace Go.AM
open Go
theorem Z0r {k:Int}:∀(j f nr:Nat) (a b:List Bx) (l:List RL),f + j=5→j<nr→a.length + b.length≤400000→(∀ x∈a,BOk x)→(∀ x∈b,BOk x) →
  Is (opc k) (tops5.drop f) (a.map (sf f)) (b.map (sf f)) l→l.length≤2000000000→Zbv nr a b k (f:Int)=some (l.map (pad f)):=by
 intro j
 induction j with
 | zero=>
  intro f nr a b l hf hn hl ha hb hL hlen
  have hf:f=5:=by omega
  subst hf
  cases nr with
  | zero=>omega
  | succ nr=>
  have h1:=hL.mem [] trivial
  rw [mS5,mS5] at h1
  rw [show ((5:Nat):Int)=5 from rfl,Zbv,if_pos (by decide),Z0q]
  simp only [Option.bind_some]
  rw [← h1]
  rcases hL.cf with rfl | rfl
  ·rfl
  ·rfl
 | succ j ih=>
  intro f nr a b l hf hn hl ha hb hL hlen
  have hf5:f<5:=by omega
  cases nr with
  | zero=>omega
  | succ nr=>
  rw [Zmq hf5] at hL
  rw [Zbv,if_neg (by simp; omega)]
  obtain⟨r,hr1,hr2⟩:=Z1n k (decide ((a.length:Int) > 0)) (decide ((b.length:Int) > 0))
  rw [hr1]
  simp only [Option.bind_some]
  cases r with
  | true=>
   rw [if_pos rfl]
   have:l=[]:=by
    refine hL.inj ⟨CF_nil _,fun p hp=>?_⟩
    rw [mS_nil]
    refine(hr2 rfl _ _ (fun h=>?_) (fun h=>?_)).symm
    ·have:a=[]:=List.length_eq_zero_iff.1 (by simp at h; simp [h])
     subst this; rfl
    ·have:b=[]:=List.length_eq_zero_iff.1 (by simp at h; simp [h])
     subst this; rfl
   rw [this]
   rfl
  | false=>
   rw [if_neg (by simp)]
   rw [Zzm hf5 hl]
   simp only [Option.bind_some]
   rw [Top_eq _ (by omega) (by omega)]
   simp only [Option.bind_some]
   have hab:∀ x∈a++b,BOk x:=fun x hx=>(List.mem_append.1 hx).elim (ha x) (hb x)
   obtain⟨ss,hs1,hs2⟩:=Zzn (rs:=(a++b).map fun x=>x.get (f:Int)) (top:=topOf (f:Int)) (by rw [List.length_map,List.length_append]; exact hl) (topN hf5).1 (by have:=topN hf5; omega) (fun y hy=>by
    obtain⟨x,hx,rfl⟩:=List.mem_map.1 hy
    exact(hab x hx).at_ hf5)
   rw [hs1]
   simp only [Option.bind_some]
   have hps:=Zyv hf5 hab hs2
   obtain⟨c,rfl,ho,hc⟩:=hL.cf
   obtain⟨⟨tl,he,hst,hr⟩,hg,hz⟩:=level hf5 hps hL ho hc
   have hlen2:=hs2.len
   rw [List.length_map,List.length_append] at hlen2
   have hmain:=Zxl hf5 (a:=a) (b:=b) (by omega) (by omega) (fun x hx=>(ha x hx).bin) (fun x hx=>(hb x hx).bin) (k:=k) (z0:=Zbv nr) (ss:=ss) (by omega) (g:=lk c) (fun v b' hb'=>by rw [hg v b' hb']; omega) (fun v h0 h1=>by
    refine ih (f + 1) nr _ _ _ (by omega) (by omega) ?_ (BOk.all ha _ _) (BOk.all hb _ _) (hz v h0 h1) ?_
    ·have:=Zp8 a (f:Int) v
     have:=Zp8 b (f:Int) v
     omega
    ·have:=lk_le c ho v; omega) tl 0 0 fuel [] [] (by rw [he]; rfl) (by
     have:=congrArg List.length he
     rw [List.length_append] at this
     simp at this
     unfold fuel; omega) (Upto.nil _) hst (Int.le_refl _) (by simp) (fun h=>by omega) (by rw [hr]; exact hlen)
   rw [hr] at hmain
   rw [show ((0:Nat):Int)=0 from rfl] at hmain
   rw [show (flt []).map (pad f)=[] from rfl] at hmain
   rw [hmain]
   rfl
def mem (l:List Bx) (p:List Int):Bool:=mS (l.map toL) p
def CFb (l:List Bx):Prop:=CF tops5 (l.map toL)
theorem CF_vR:∀(ts:List Int) {l:List RL},CF ts l→∀ b∈l,vR ts b
 | [],l,h,b,hb=>by
  rcases h with rfl | rfl
  ·cases hb
  ·rw [List.mem_singleton] at hb; rw [hb]; trivial
 | t :: ts,l,⟨c,h1,h2,h3⟩,b,hb=>by
  subst h1
  obtain⟨x,hx,hb⟩:=List.mem_flatMap.1 hb
  obtain⟨b',hb',rfl⟩:=List.mem_map.1 hb
  have:=h2.ok x hx
  exact⟨this.1,this.2.1,this.2.2.1,CF_vR ts (h3 x hx) b' hb'⟩
theorem vR_ok {b:Bx} (h:vR tops5 (toL b)):BOk b:=by
 obtain⟨a0,a1,a2,b0,b1,b2,c0,c1,c2,d0,d1,d2,e0,e1,e2,_⟩:=h
 exact⟨⟨a0,a1,a2⟩,⟨b0,b1,b2⟩,⟨c0,c1,c2⟩,⟨d0,d1,d2⟩,⟨e0,e1,e2⟩⟩
theorem CFb.ok {l:List Bx} (h:CFb l):∀ b∈l,BOk b:=fun b hb=>vR_ok (CF_vR _ h _ (List.mem_map_of_mem hb))
theorem Zxm {l:List RL} (h:∀ b∈l,b.length=5):(l.map (pad 0)).map toL=l:=by
 rw [List.map_map]
 conv=>rhs; rw [← List.map_id l]
 exact List.map_congr_left fun b hb=>Zx5 (h b hb)
theorem Z0s:∀ t∈tops5,0≤t:=by unfold tops5; simp
theorem Zy0 (op:Bool→Bool→Bool) (a b:List Bx):∃ l:List Bx,Is op tops5 (a.map toL) (b.map toL) (l.map toL):=by
 obtain⟨l,h⟩:=Is.exists_ op tops5 Z0s (a.map toL) (b.map toL)
 refine⟨l.map (pad 0),?_⟩
 rw [Zxm (fun b hb=>CF_len _ h.cf b hb)]
 exact h
structure Can (op:Bool→Bool→Bool) (a b l:List Bx):Prop where
 cf:CFb l
 mem:∀ p,vP tops5 p→mem l p=op (mem a p) (mem b p)
theorem Can.is {op:Bool→Bool→Bool} {a b l:List Bx} (h:Can op a b l):Is op tops5 (a.map toL) (b.map toL) (l.map toL):=⟨h.cf,h.mem⟩
theorem Zxn {l l':List Bx} (h:l.map toL=l'.map toL):l=l':=by
 have:=congrArg (List.map ofL) h
 rw [List.map_map,List.map_map] at this
 have e:(ofL ∘ toL)=id:=funext fun b=>Zp7 b
 rw [e,List.map_id,List.map_id] at this
 exact this
theorem CFb.inj {l l':List Bx} (h:CFb l) (h':CFb l') (e:∀ p,vP tops5 p→mem l p=mem l' p):l=l':=Zxn (CF_inj _ h h' e)
theorem Can.inj {op:Bool→Bool→Bool} {a b l l':List Bx} (h:Can op a b l) (h':Can op a b l'):l=l':=h.cf.inj h'.cf fun p hp=>by rw [h.mem p hp,h'.mem p hp]
theorem Can.ex (op:Bool→Bool→Bool) (a b:List Bx):∃ l,Can op a b l:=by
 obtain⟨l,h⟩:=Zy0 op a b
 exact⟨l,h.cf,h.mem⟩
theorem CFb.nil:CFb []:=CF_nil _
theorem Zud (p:List Int):mem [] p=false:=rfl
theorem Can.right {op:Bool→Bool→Bool} (h:∀ x,op x false=x) {a:List Bx} (ha:CFb a):Can op a [] a:=⟨ha,fun p _=>by rw [Zud,h]⟩
theorem Zx7 (l:List Bx):(l.map toL).map (pad 0)=l:=by
 rw [List.map_map]
 have e:(pad 0 ∘ toL)=id:=funext fun b=>Zp7 b
 rw [e,List.map_id]
theorem Zpz {op:Bool→Bool→Bool} {C:Nat→Int→List Bx→List Bx→Int→Option (List Bx × Bool)} (hC:Canon op C) {a b l:List Bx} (hl:a.length + b.length≤400000) (ha:∀ x∈a,BOk x) (hb:∀ x∈b,BOk x) (h:Can op a b l) :
  C fuel 0 a b 4096=some (if l.length≤4096 then (l,true) else ([],false)):=by
 have:=Z0p hC (m:=4096) (by omega) (by omega) 5 0 fuel a b (l.map toL) (by omega) (by unfold fuel; omega) hl ha hb h.is
 rw [show ((0:Nat):Int)=0 from rfl,show ((4096:Nat):Int)=4096 from rfl] at this
 rw [this]
 unfold capd
 rw [List.length_map,Zx7]
theorem Zu5 {k:Int} {a b l:List Bx} (hl:a.length + b.length≤400000) (ha:∀ x∈a,BOk x) (hb:∀ x∈b,BOk x) (h:Can (opc k) a b l) (hlen:l.length≤2000000000):Zbv fuel a b k 0=some l:=by
 have:=Z0r (k:=k) 5 0 fuel a b (l.map toL) (by omega) (by unfold fuel; omega) hl ha hb h.is (by rw [List.length_map]; exact hlen)
 rw [show ((0:Nat):Int)=0 from rfl] at this
 rw [this,Zx7]
def capB (l:List Bx):List Bx × Int:=if l.length≤4096 then (l,0) else ([],3)
theorem Ztb (l:List Bx):Zfa l=some (capB l):=by
 unfold Zfa capB
 by_cases h:l.length≤4096
 ·rw [if_neg (by simp; omega),if_pos h]
 ·rw [if_pos (by simp; omega),if_neg h]
theorem Zue {a b l:List Bx} (hl:a.length + b.length≤400000) (ha:∀ x∈a,BOk x) (hb:∀ x∈b,BOk x) (h:Can (fun x y=>x || y) a b l):Zbj a b=some (capB l):=by
 unfold Zbj capB
 rw [Zpz Zwu hl ha hb h]
 by_cases h:l.length≤4096
 ·rw [if_pos h,if_pos h]; rfl
 ·rw [if_neg h,if_neg h]; rfl
theorem Zwv {a b l:List Bx} (hl:a.length + b.length≤400000) (ha:∀ x∈a,BOk x) (hb:∀ x∈b,BOk x) (h:Can (fun x y=>x && y) a b l):Zdb a b=some (capB l):=by
 unfold Zdb capB
 rw [Zpz Zyw hl ha hb h]
 by_cases h:l.length≤4096
 ·rw [if_pos h,if_pos h]; rfl
 ·rw [if_neg h,if_neg h]; rfl
theorem Ztc {a b l:List Bx} (hl:a.length + b.length≤400000) (ha:∀ x∈a,BOk x) (hb:∀ x∈b,BOk x) (h:Can (fun x y=>x && !y) a b l):Zcr a b=some (capB l):=by
 unfold Zcr capB
 rw [Zpz Zvn hl ha hb h]
 by_cases h:l.length≤4096
 ·rw [if_pos h,if_pos h]; rfl
 ·rw [if_neg h,if_neg h]; rfl
end Go.AM
set_option maxRecDepth 100000
namespace Go.AM
open Go
theorem Zmr {a b:Zb}:Zdj a b=true ↔ a=b:=by rw [eq_rg]; simp
structure RunTo (f:Nat) (l:List Bx) (r:Zb) (n:Nat):Prop where
 h1:n≤l.length
 eq:∀ i (h:i<l.length),i<n→(l[i]).get (f:Int)=r
 ne:∀(h:n<l.length),(l[n]).get (f:Int) ≠ r
theorem Z0t {f:Nat} (hf:f<5) {l:List Bx} (hl:l.length≤1000000) {b0:Bx} (h0:l[0]? = some b0):∀(k j n:Nat),l.length - j=k→k<n→1≤j→j≤l.length→(∀ i (h:i<l.length),i<j→(l[i]).get (f:Int)=b0.get (f:Int)) →
  ∃ N:Nat,Zcy (f:Int) l n (j:Int)=some (N:Int)∧j≤N∧RunTo f l (b0.get (f:Int)) N:=by
 intro k
 have hpos:0<l.length:=by
  rcases l with _ | ⟨x,l⟩
  ·simp at h0
  ·simp
 have i0:idx l (0:Int)=some b0:=by rw [show (0:Int)=((0:Nat):Int) from rfl,Z1 hpos,← List.getElem?_eq_getElem,h0]
 induction k with
 | zero=>
  intro j n hk hn h1 hj he
  cases n with
  | zero=>omega
  | succ n=>
  have hd:decide ((j:Int)<(l.length:Int))=false:=by simp; omega
  rw [Zcy,hd]
  exact⟨j,rfl,Nat.le_refl _,hj,he,fun h=>by omega⟩
 | succ k ih=>
  intro j n hk hn h1 hj he
  cases n with
  | zero=>omega
  | succ n=>
  have hjl:j<l.length:=by omega
  have hd:decide ((j:Int)<(l.length:Int))=true:=by simp; omega
  rw [Zcy,hd]
  simp only [Option.bind_some,if_true,Z1 hjl,i0]
  rw [if_pos ⟨by omega,by omega⟩,if_pos ⟨by omega,by omega⟩]
  simp only [Option.bind_some]
  by_cases hq:(l[j]).get (f:Int)=b0.get (f:Int)
  ·rw [if_pos (Zmr.2 hq),wsucc (by omega)]
   obtain⟨N,e,g1,g2⟩:=ih (j + 1) n (by omega) (by omega) (by omega) (by omega) (fun i h hi=>by
    rcases Nat.lt_or_eq_of_le (Nat.lt_succ_iff.1 hi) with h2 | h2
    ·exact he i h h2
    ·subst h2; exact hq)
   exact⟨N,e,by omega,g2⟩
  ·rw [if_neg (fun h=>hq (Zmr.1 h))]
   exact⟨j,rfl,Nat.le_refl _,hj,he,fun _=>hq⟩
theorem Zu6 {f:Nat} (hf:f<5) {l:List Bx} {r:Zb} {n:Nat} (hn:1≤n) (h:RunTo f l r n) (hl:l ≠ []) :
  l.map (sf f)=((l.take n).map (sf (f + 1))).map (r :: ·)++(l.drop n).map (sf f)∧(l.take n).map (sf (f + 1)) ≠ []∧∀ b,((l.drop n).map (sf f)).head? = some b→∃ r' b',b=r' :: b'∧r' ≠ r:=by
 refine⟨?_,?_,?_⟩
 ·conv=>lhs; rw [← List.take_append_drop n l,List.map_append]
  congr 1
  rw [List.map_map]
  refine List.map_congr_left fun b hb=>?_
  obtain⟨i,hi,rfl⟩:=List.getElem_of_mem hb
  have hi2:i<n∧i<l.length:=by rw [List.length_take] at hi; omega
  rw [List.getElem_take,Zks hf,h.eq i hi2.2 hi2.1]
  rfl
 ·intro e
  have:=congrArg List.length e
  simp only [List.length_map,List.length_take,List.length_nil] at this
  have:0<l.length:=List.length_pos_iff.2 hl
  omega
 ·intro b hb
  by_cases hnl:n<l.length
  ·rw [List.drop_eq_getElem_cons hnl] at hb
   simp only [List.map_cons,List.head?_cons,Option.some.injEq] at hb
   exact⟨_,_,by rw [← hb,Zks hf],h.ne hnl⟩
  ·rw [List.drop_eq_nil_of_le (by omega)] at hb
   simp at hb
def zpre (f:Nat) (b:Bx):Bx:=pad (f + 1) (sf (f + 1) b)
theorem Zzp {f:Nat} (hf:f<5) {v:List Bx} {i:Nat} (hi:i<v.length):Zbr (f:Int) (i:Int) fuel v 0=some (v.set i (zpre f v[i])):=by
 obtain⟨n,hn⟩:∃ n,fuel=n + 6:=⟨fuel - 6,by unfold fuel; omega⟩
 rw [hn]
 have stop:∀(k:Nat) (m:Nat) (w:List Bx),f<k→Zbr (f:Int) (i:Int) (m + 1) w (k:Int)=some w:=by
  intro k m w hk
  rw [Zbr,if_neg (by simp; omega)]
 have nx:∀(k:Nat) (m:Nat) (x:Bx),k<5→k≤f→Zbr (f:Int) (i:Int) (m + 1) (v.set i x) (k:Int)=Zbr (f:Int) (i:Int) m (v.set i (x.set (k:Int) zr)) ((k + 1:Nat):Int):=by
  intro k m x hk hkf
  rw [Zbr,if_pos (by simp; omega),Z1 (show i<(v.set i x).length by rw [List.length_set]; exact hi),List.getElem_set_self]
  simp only [Option.bind_some,Int.toNat_natCast]
  rw [if_pos ⟨by omega,by omega⟩,wsucc (by omega),List.set_set]
  rfl
 have first:v=v.set i v[i]:=(List.set_getElem_self hi).symm
 conv=>lhs; rw [first]
 rw [show (0:Int)=((0:Nat):Int) from rfl]
 rcases fiveN hf with rfl | rfl | rfl | rfl | rfl
 ·rw [nx 0 _ _ (by omega) (by omega),stop _ _ _ (by omega)]; rfl
 ·rw [nx 0 _ _ (by omega) (by omega),nx 1 _ _ (by omega) (by omega),stop _ _ _ (by omega)]; rfl
 ·rw [nx 0 _ _ (by omega) (by omega),nx 1 _ _ (by omega) (by omega),nx 2 _ _ (by omega) (by omega),stop _ _ _ (by omega)]; rfl
 ·rw [nx 0 _ _ (by omega) (by omega),nx 1 _ _ (by omega) (by omega),nx 2 _ _ (by omega) (by omega),nx 3 _ _ (by omega) (by omega),stop _ _ _ (by omega)]; rfl
 ·rw [nx 0 _ _ (by omega) (by omega),nx 1 _ _ (by omega) (by omega),nx 2 _ _ (by omega) (by omega),nx 3 _ _ (by omega) (by omega),nx 4 _ _ (by omega) (by omega),stop _ _ _ (by omega)]; rfl
def stepN {α:Type} (g:α→α) (s:List α) (i:Nat) (_:α):List α:=match s[i]? with
 | some x=>s.set i (g x)
 | none=>s
theorem Zn7 {α:Type} (g:α→α):∀(l pre:List α),foldI (stepN g) (pre++l) pre.length l=pre++l.map g
 | [],pre=>by simp [foldI]
 | x :: l,pre=>by
  have e:foldI (stepN g) (pre++x :: l) pre.length (x :: l)=foldI (stepN g) (stepN g (pre++x :: l) pre.length x) (pre.length + 1) l:=rfl
  rw [e]
  have h1:(pre++x :: l)[pre.length]? = some x:=by rw [List.getElem?_append_right (Nat.le_refl _),Nat.sub_self]; rfl
  have h2:(pre++x :: l).set pre.length (g x)=(pre++[g x])++l:=by rw [List.set_append_right _ _ (Nat.le_refl _),Nat.sub_self]; simp
  have h3:stepN g (pre++x :: l) pre.length x=(pre++[g x])++l:=by unfold stepN; rw [h1]; exact h2
  rw [h3]
  have:=Zn7 g l (pre++[g x])
  rw [List.length_append,List.length_singleton] at this
  rw [this]
  simp
theorem Zzq {f:Nat} (hf:f<5) {l:List Bx} (hl:l.length≤2000000000):Zgh (f:Int) l=some (l.map (zpre f)):=by
 unfold Zgh
 rw [if_pos (by unfold lim; omega)]
 have:=Zch (L:=Zdg (f:Int) l) l (stepN (zpre f)) id (fun _ s=>s.length=l.length) (by omega) (fun n s i hi hs=>by
  rw [Zdg]
  simp only [show ((i:Int)<(l.length:Int)) from by omega,decide_true,if_true,Option.bind_some,wsucc (by omega:i<1000000000001)]
  rw [Zzp hf (show i<s.length by omega)]
  have h3:stepN (zpre f) s i l[i]=s.set i (zpre f s[i]):=by unfold stepN; rw [List.getElem?_eq_getElem (show i<s.length by omega)]
  rw [h3]
  exact⟨rfl,by rw [List.length_set]; exact hs⟩) (fun n s hs=>by rw [Zdg]; simp) l rfl
 have h2:=Zn7 (zpre f) l []
 rw [List.nil_append,List.nil_append,List.length_nil] at h2
 rw [this.1,h2]
 rfl
def lastG (f:Nat):Option Cell→Zg
 | none=>Zge
 | some x=>gr1 f x
theorem Zvo {f:Nat} (hf:f<5) {z0:Int→List Bx→Option Bool}
  (hz:∀ l:List Bx,l.length≤1000000→(∀ x∈l,BOk x)→∃ r,z0 ((f + 1:Nat):Int) l=some r∧(r=true ↔ CF (tops5.drop (f + 1)) (l.map (sf (f + 1))))) :
  ∀(K n:Nat) (l:List Bx) (last:Option Cell),l.length≤K→K<n→l.length≤1000000→(∀ x∈l,BOk x)→(∀ y∈last,y.2 ≠ []∧y.2.length≤1000000∧0≤y.1.Hi∧y.1.Hi<4294967296∧∀ b∈y.2,b.length=5 - (f + 1)) →
  ∃ o,Zb5 (f:Int) z0 n (lastG f last) l=some o∧((∃ c,l.map (sf f)=flt c∧Nx (topOf (f:Int)) (tops5.drop (f + 1)) last c)→∃ g,o=.inl g)∧(¬ (∃ c,l.map (sf f)=flt c∧Nx (topOf (f:Int)) (tops5.drop (f + 1)) last c)→o=.inr false):=by
 intro K
 induction K with
 | zero=>
  intro n l last hlK hn hl hok hlast
  have:l=[]:=List.length_eq_zero_iff.1 (by omega)
  subst this
  cases n with
  | zero=>omega
  | succ n=>
  rw [Zb5,if_neg (by simp)]
  exact⟨_,rfl,fun _=>⟨_,rfl⟩,fun h=>absurd ⟨[],rfl,Nx.nil ..⟩ h⟩
 | succ K ih=>
  intro n l last hlK hn hl hok hlast
  cases n with
  | zero=>omega
  | succ n=>
  cases hll:l with
  | nil=>
   rw [Zb5,if_neg (by simp)]
   exact⟨_,rfl,fun _=>⟨_,rfl⟩,fun h=>absurd ⟨[],rfl,Nx.nil ..⟩ h⟩
  | cons b0 l'=>
  have hne:l ≠ []:=by rw [hll]; exact List.cons_ne_nil _ _
  have hpos:0<l.length:=List.length_pos_iff.2 hne
  have h0:l[0]? = some b0:=by rw [hll]; rfl
  have i0:idx l (0:Int)=some b0:=by rw [show (0:Int)=((0:Nat):Int) from rfl,Z1 hpos,← List.getElem?_eq_getElem,h0]
  obtain⟨N,e1,g1,g2⟩:=Z0t hf hl h0 (l.length - 1) 1 fuel rfl (by unfold fuel; omega) (Nat.le_refl _) (by omega) (fun i h hi=>by
   have:i=0:=by omega
   subst this
   rw [List.getElem?_eq_getElem h,Option.some.injEq] at h0
   rw [h0])
  rw [← hll]
  obtain⟨s1,s2,s3⟩:=Zu6 hf g1 g2 hne
  have hb0:BOk b0:=hok b0 (by rw [hll]; exact List.mem_cons_self ..)
  have hb0r:=hb0.at_ hf
  have htop:=topN hf
  rw [Zb5,if_pos (by simp; omega)]
  rw [show ((1:Nat):Int)=1 from rfl] at e1
  rw [e1]
  simp only [Option.bind_some,i0,Int.toNat_natCast,Int.toNat_zero,List.drop_zero]
  have hN:=g2.h1
  rw [if_pos ⟨by omega,by omega⟩,if_pos ⟨by omega,by omega,by omega⟩]
  have htl:(l.take N).length≤1000000:=by rw [List.length_take]; omega
  rw [Zzq hf (by omega)]
  simp only [Option.bind_some]
  rw [if_pos ⟨by omega,by omega,by omega⟩,wsucc (by omega)]
  obtain⟨rv,z1,z2⟩:=hz (l.take N) htl (fun x hx=>hok x (List.mem_of_mem_take hx))
  rw [z1]
  simp only [Option.bind_some]
  rw [s1]
  have hrun:=Nx.run (t:=topOf (f:Int)) (ts:=tops5.drop (f + 1)) (last:=last) (r:=b0.get (f:Int)) s2 s3
  rw [hrun]
  cases rv with
  | false=>
   simp only [Bool.not_false,if_true]
   have hncf:¬ CF (tops5.drop (f + 1)) ((l.take N).map (sf (f + 1))):=fun h=>by have:=z2.2 h; cases this
   exact⟨_,rfl,fun h=>absurd h.2.1 hncf,fun _=>rfl⟩
  | true=>
   simp only [Bool.not_true,Bool.false_eq_true,if_false]
   have hcf:=z2.1 rfl
   have hzl:∀ b∈(l.take N).map (sf (f + 1)),b.length=5 - (f + 1):=fun b hb=>by
    obtain⟨x,_,rfl⟩:=List.mem_map.1 hb
    exact sf_len (by omega) x
   have hzm:(l.take N).map (zpre f)=((l.take N).map (sf (f + 1))).map (pad (f + 1)):=by rw [List.map_map]; rfl
   have hgap:∃ og:Unit ⊕ Bool,(if decide (((lastG f last).f_rest.length:Int) > 0)=true then
      (if decide ((b0.get (f:Int)).Lo≤(lastG f last).f_values.Hi)=true then some true else
       (if ((b0.get (f:Int)).Lo == (IntKind.wrap .u32 ((lastG f last).f_values.Hi + (1:Int))))=true then
        (Zan ((l.take N).map (zpre f)) (lastG f last).f_rest).bind fun(r223:Bool)=>
        some r223
        else some false).bind fun(v225:Bool)=>
       some v225
       ).bind fun(v227:Bool)=>
      if v227=true then
       (some (.inr false):Option (Unit ⊕ Bool))
      else
       some (.inl ())
     else
      some (.inl ()))=some og∧((∀ y∈last,gp y (b0.get (f:Int),(l.take N).map (sf (f + 1))))→og=.inl ())∧(¬ (∀ y∈last,gp y (b0.get (f:Int),(l.take N).map (sf (f + 1))))→og=.inr false):=by
    cases last with
    | none=>
     rw [if_neg (show ¬ decide (((lastG f none).f_rest.length:Int) > 0)=true from fun h=>by cases h)]
     exact⟨_,rfl,fun _=>rfl,fun h=>absurd (fun y hy=>by cases hy) h⟩
    | some y=>
     obtain⟨y1,y2,y3,y4,y5⟩:=hlast y rfl
     have hyl:0<y.2.length:=List.length_pos_iff.2 y1
     have hall:(∀ z∈some y,gp z (b0.get (f:Int),(l.take N).map (sf (f + 1)))) ↔ gp y (b0.get (f:Int),(l.take N).map (sf (f + 1))):=⟨fun h=>h y rfl,fun h z hz=>by cases hz; exact h⟩
     simp only [lastG,show (gr1 f y).f_rest=y.2.map (pad (f + 1)) from rfl,show (gr1 f y).f_values=y.1 from rfl,List.length_map]
     rw [if_pos (by simp; omega),hall]
     unfold gp
     by_cases c1:(b0.get (f:Int)).Lo≤y.1.Hi
     ·rw [if_pos (decide_eq_true c1)]
      simp only [Option.bind_some,if_true]
      exact⟨_,rfl,fun h=>by have:=h.1; omega,fun _=>rfl⟩
     ·rw [if_neg (by simpa using c1)]
      rw [wu32 (x:=y.1.Hi + 1) (by omega) (by omega)]
      by_cases c2:(b0.get (f:Int)).Lo=y.1.Hi + 1
      ·rw [if_pos (by simpa using c2),Zwn (by rw [List.length_map]; omega),hzm]
       have hmi:=Zm5 (f:=f + 1) (by omega) hzl y5
       simp only [Option.bind_some,decide_eq_true_eq,hmi]
       by_cases c3:(l.take N).map (sf (f + 1))=y.2
       ·rw [if_pos c3]
        exact⟨_,rfl,fun h=>absurd c3.symm (h.2 (by omega)),fun _=>rfl⟩
       ·rw [if_neg c3]
        exact⟨_,rfl,fun _=>rfl,fun h=>absurd ⟨by omega,fun _ h=>c3 h.symm⟩ h⟩
      ·rw [if_neg (by simpa using c2)]
       simp only [Option.bind_some,Bool.false_eq_true,if_false]
       exact⟨_,rfl,fun _=>rfl,fun h=>absurd ⟨by omega,fun h=>absurd h.symm c2⟩ h⟩
   obtain⟨og,og1,og2,og3⟩:=hgap
   rw [og1]
   by_cases hg:∀ y∈last,gp y (b0.get (f:Int),(l.take N).map (sf (f + 1)))
   ·rw [og2 hg]
    simp only [Option.bind_some]
    rw [if_pos ⟨by omega,by omega,by omega⟩,List.take_length]
    rw [show (Zg.mk (b0.get (f:Int)) ((l.take N).map (zpre f)))=lastG f (some (b0.get (f:Int),(l.take N).map (sf (f + 1)))) by rw [hzm]; rfl]
    obtain⟨o,o1,o2,o3⟩:=ih n (l.drop N) (some (b0.get (f:Int),(l.take N).map (sf (f + 1)))) (by rw [List.length_drop]; omega) (by omega) (by rw [List.length_drop]; omega) (fun x hx=>hok x (List.mem_of_mem_drop hx)) (fun y hy=>by
     cases hy
     refine⟨s2,by rw [List.length_map]; exact htl,by show 0≤(b0.get (f:Int)).Hi; omega,by show (b0.get (f:Int)).Hi<4294967296; omega,hzl⟩)
    refine⟨o,o1,fun h=>o2 h.2.2.2,fun h=>o3 fun h2=>h ⟨⟨by omega,by omega,by omega⟩,hcf,hg,h2⟩⟩
   ·rw [og3 hg]
    simp only [Option.bind_some]
    exact⟨_,rfl,fun h=>absurd h.2.2.1 hg,fun _=>rfl⟩
theorem Zy1:∀(k f nr:Nat) (l:List Bx),f + k=5→k<nr→l.length≤1000000→(∀ x∈l,BOk x)→∃ r,Zbk nr (f:Int) l=some r∧(r=true ↔ CF (tops5.drop f) (l.map (sf f))):=by
 intro k
 induction k with
 | zero=>
  intro f nr l hf hn hl hok
  have:f=5:=by omega
  subst this
  cases nr with
  | zero=>omega
  | succ nr=>
  rw [Zbk,if_pos (by decide)]
  refine⟨_,rfl,?_⟩
  show _ ↔ (l.map (sf 5)=[]∨l.map (sf 5)=[[]])
  rcases l with _ | ⟨x,_ | ⟨y,l⟩⟩
  ·simp
  ·exact⟨fun _=>Or.inr rfl,fun _=>by simp⟩
  ·constructor
   ·intro h; simp at h; omega
   ·rintro(h | h) <;> simp at h
 | succ k ih=>
  intro f nr l hf hn hl hok
  have hf5:f<5:=by omega
  cases nr with
  | zero=>omega
  | succ nr=>
  rw [Zbk,if_neg (by simp; omega),Zmq hf5,CF_iff]
  obtain⟨o,o1,o2,o3⟩:=Zvo hf5 (z0:=Zbk nr) (fun l hl hok=>ih (f + 1) nr l (by omega) (by omega) hl hok) l.length fuel l none (Nat.le_refl _) (by unfold fuel; omega) hl hok (fun y hy=>(by cases hy))
  rw [show lastG f none=Zge from rfl] at o1
  rw [o1]
  by_cases h:∃ c,l.map (sf f)=flt c∧Nx (topOf (f:Int)) (tops5.drop (f + 1)) none c
  ·obtain⟨g,rfl⟩:=o2 h
   exact⟨true,rfl,fun _=>h,fun _=>rfl⟩
  ·rw [o3 h]
   exact⟨false,rfl,fun h=>(by cases h),fun h2=>absurd h2 h⟩
structure VS (l:List Bx):Prop where
 len:l.length≤4096
 ok:∀ x∈l,BOk x
 cf:CFb l
theorem VS.of {l:List Bx} (h:CFb l) (hl:l.length≤4096):VS l:=⟨hl,h.ok,h⟩
theorem Zms {l:List Bx} (hin:∀ x∈l,BIn x):(l.filter vB).length=l.length ↔ ∀ x∈l,BOk x:=by
 rw [List.length_filter_eq_length_iff]
 exact⟨fun h x hx=>vB_ok (hin x hx) (h x hx),fun h x hx=>ok_vB (h x hx)⟩
theorem Zzr {l:List Bx} (hl:l.length≤1000000) (hin:∀ x∈l,BIn x):∃ r,Zee l=some r∧(r=true ↔ VS l):=by
 unfold Zee
 by_cases h1:l.length≤4096
 ·have hd:decide ((l.length:Int)≤4096)=true:=by simp; omega
  rw [hd]
  simp only [Option.bind_some,if_true]
  rw [Zu2 (by omega)]
  simp only [Option.bind_some]
  by_cases h2:∀ x∈l,BOk x
  ·have he:(((l.filter vB).length:Int) == (l.length:Int))=true:=by rw [(Zms hin).2 h2]; simp
   rw [he]
   simp only [if_true]
   obtain⟨r,e,g⟩:=Zy1 5 0 fuel l (by omega) (by unfold fuel; omega) hl h2
   rw [show ((0:Nat):Int)=0 from rfl] at e
   rw [e]
   refine⟨r,rfl,g.trans ⟨fun h=>⟨h1,h2,h⟩,fun h=>h.cf⟩⟩
  ·have he:(((l.filter vB).length:Int) == (l.length:Int))=false:=by
    have h3:¬ (l.filter vB).length=l.length:=fun h=>h2 ((Zms hin).1 h)
    simp only [beq_eq_false_iff_ne,ne_eq]
    omega
   rw [he]
   exact⟨false,rfl,fun h=>(by cases h),fun h=>absurd h.ok h2⟩
 ·have hd:decide ((l.length:Int)≤4096)=false:=by simp; omega
  rw [hd]
  exact⟨false,rfl,fun h=>(by cases h),fun h=>absurd h.len h1⟩
end Go.AM
set_option maxRecDepth 100000
namespace Go.AM
open Go
theorem Zzs {a b:List Bx} {i:Nat} {x y:Bx} (hx:idx a (i:Int)=some x) (hy:idx b (i:Int)=some y):∀(k f n:Nat),f + k=5→k<n→Zd6 a b (i:Int) n (f:Int)=some (if sf f x=sf f y then .inl () else .inr false):=by
 intro k
 induction k with
 | zero=>
  intro f n hf hn
  cases n with
  | zero=>omega
  | succ n=>
  have:f=5:=by omega
  subst this
  rw [Zd6,if_neg (by decide),if_pos (show sf 5 x=sf 5 y from rfl)]
 | succ k ih=>
  intro f n hf hn
  cases n with
  | zero=>omega
  | succ n=>
  have hf5:f<5:=by omega
  rw [Zd6,if_pos (by simp; omega),hx,hy]
  simp only [Option.bind_some]
  rw [if_pos ⟨by omega,by omega⟩,if_pos ⟨by omega,by omega⟩,wsucc (by omega),ih (f + 1) n (by omega) (by omega),eq_rg]
  rw [Zks hf5 x,Zks hf5 y]
  by_cases h:x.get (f:Int)=y.get (f:Int)
  ·simp [h]
  ·simp [h]
theorem Zu7 {α β:Type} [DecidableEq β] (g:α→β):∀(l pre b:List α),l.length + pre.length=b.length→findI (fun i x=>if (b[i]?).map g=some (g x) then none else some false) pre.length l=if l.map g=(b.drop pre.length).map g then none else some false
 | [],pre,b,h=>by simp at h; rw [h]; simp [findI]
 | x :: l,pre,b,h=>by
  simp only [List.length_cons] at h
  have hi:pre.length<b.length:=by omega
  rw [List.drop_eq_getElem_cons hi]
  simp only [findI,List.getElem?_eq_getElem hi,Option.map_some,List.map_cons,List.cons.injEq,Option.some.injEq]
  by_cases e:g b[pre.length]=g x
  ·rw [if_pos e]
   simp only [e,true_and]
   have:=Zu7 g l (pre++[x]) b (by simp; omega)
   simp only [List.length_append,List.length_singleton] at this
   exact this
  ·rw [if_neg e,if_neg (fun h=>e h.1.symm)]
theorem Z0u {a b:List Bx} (ha:a.length≤1000000000000) {f:Nat} (hf:f≤5):Zf1 a b (f:Int)=some (decide (a.map (sf f)=b.map (sf f))):=by
 unfold Zf1
 by_cases hl:a.length=b.length
 ·rw [if_neg (by simp [hl])]
  rw [Zhs (L:=Zd7 a b (f:Int)) a (fun i x=>if (b[i]?).map (sf f)=some (sf f x) then none else some false) ha (fun n i hi=>by
   have hj:i<b.length:=by omega
   rw [Zd7,if_pos (by simp; omega),Zzs (Z1 hi) (Z1 hj) (5 - f) f fuel (by omega) (by unfold fuel; omega)]
   simp only [Option.bind_some,List.getElem?_eq_getElem hj,Option.map_some,Option.some.injEq,wsucc (by omega:i<1000000000001)]
   by_cases e:sf f a[i]=sf f b[i]
   ·rw [if_pos e,if_pos e.symm]
   ·rw [if_neg e,if_neg (fun h=>e h.symm)]) (fun n=>by rw [Zd7]; simp)]
  have:=Zu7 (sf f) a [] b (by simpa using hl)
  simp only [List.length_nil,List.drop_zero] at this
  rw [this]
  by_cases e:a.map (sf f)=b.map (sf f)
  ·simp [e,orS]
  ·simp [e,orS]
 ·rw [if_pos (by simp; omega)]
  rw [decide_eq_false (fun e=>hl (by have:=congrArg List.length e; simpa using this))]
theorem Z1p {f:Nat} (hf:f<5) {a0 l:List Bx} {from_:Nat} (hd:a0.drop from_=l) (hle:from_≤a0.length) (hl:a0.length≤1000000) {b0:Bx} (h0:l[0]? = some b0):∀(k j n:Nat),l.length - j=k→k<n→j≤l.length→(∀ i (h:i<l.length),i<j→(l[i]).get (f:Int)=b0.get (f:Int)) →
  ∃ N:Nat,Zcz a0 (f:Int) (from_:Int) n ((from_ + j:Nat):Int)=some ((from_ + N:Nat):Int)∧j≤N∧RunTo f l (b0.get (f:Int)) N:=by
 have hlen:l.length=a0.length - from_:=by rw [← hd,List.length_drop]
 have gi:∀ j,l[j]? = a0[from_ + j]?:=fun j=>by rw [← hd,List.getElem?_drop]
 have hpos:0<l.length:=by
  rcases l with _ | ⟨x,l⟩
  ·simp at h0
  ·simp
 have gx:∀ j (h:j<l.length),idx a0 ((from_ + j:Nat):Int)=some l[j]:=fun j h=>by
  rw [Z1 (by omega),← List.getElem?_eq_getElem,← gi,List.getElem?_eq_getElem h]
 have i0:idx a0 (from_:Int)=some b0:=by
  have:=gx 0 hpos
  rw [Nat.add_zero] at this
  rw [this,← List.getElem?_eq_getElem,h0]
 intro k
 induction k with
 | zero=>
  intro j n hk hn hj he
  cases n with
  | zero=>omega
  | succ n=>
  have hd:decide (((from_ + j:Nat):Int)<(a0.length:Int))=false:=by simp; omega
  rw [Zcz,hd]
  exact⟨j,rfl,Nat.le_refl _,hj,he,fun h=>by omega⟩
 | succ k ih=>
  intro j n hk hn hj he
  cases n with
  | zero=>omega
  | succ n=>
  have hjl:j<l.length:=by omega
  have hd:decide (((from_ + j:Nat):Int)<(a0.length:Int))=true:=by simp; omega
  rw [Zcz,hd]
  simp only [Option.bind_some,if_true,gx j hjl,i0]
  rw [if_pos ⟨by omega,by omega⟩,if_pos ⟨by omega,by omega⟩]
  simp only [Option.bind_some]
  by_cases hq:(l[j]).get (f:Int)=b0.get (f:Int)
  ·rw [if_pos (Zmr.2 hq),wsucc (by omega)]
   obtain⟨N,e,g1,g2⟩:=ih (j + 1) n (by omega) (by omega) (by omega) (fun i h hi=>by
    rcases Nat.lt_or_eq_of_le (Nat.lt_succ_iff.1 hi) with h2 | h2
    ·exact he i h h2
    ·subst h2; exact hq)
   exact⟨N,e,by omega,g2⟩
  ·rw [if_neg (fun h=>hq (Zmr.1 h))]
   exact⟨j,rfl,Nat.le_refl _,hj,he,fun _=>hq⟩
def LastR (f:Nat) (pre v:List Bx):Option Cell→Prop
 | none=>pre=[]
 | some y=>v.map (sf (f + 1))=y.2∧∃ p0 b,pre=p0++[b]∧b.get (f:Int)=y.1
theorem Ztd {f:Nat} (hf:f<5) {a0:List Bx} (hal:a0.length≤1000000) (hok:∀ x∈a0,BOk x) {z0:List Bx→Int→Option Bool}
  (hz:∀ l:List Bx,l ≠ []→l.length≤1000000→(∀ x∈l,BOk x)→∃ r,z0 l ((f + 1:Nat):Int)=some r∧(r=true ↔ CF (tops5.drop (f + 1)) (l.map (sf (f + 1))))) :
  ∀(K n:Nat) (pre l v:List Bx) (last:Option Cell),l.length≤K→K<n→a0=pre++l→LastR f pre v last→(∀ y∈last,y.2 ≠ []∧0≤y.1.Hi∧y.1.Hi<4294967296)→v.length≤1000000 →
  ∃ o,Zb7 a0 (f:Int) z0 n v (pre.length:Int)=some o∧((∃ c,l.map (sf f)=flt c∧Nx (topOf (f:Int)) (tops5.drop (f + 1)) last c)→o=.inl ())∧(¬ (∃ c,l.map (sf f)=flt c∧Nx (topOf (f:Int)) (tops5.drop (f + 1)) last c)→o=.inr false):=by
 intro K
 induction K with
 | zero=>
  intro n pre l v last hlK hn ha hl hlast hv
  have:l=[]:=List.length_eq_zero_iff.1 (by omega)
  subst this
  cases n with
  | zero=>omega
  | succ n=>
  rw [Zb7,if_neg (by rw [ha]; simp)]
  exact⟨_,rfl,fun _=>rfl,fun h=>absurd ⟨[],rfl,Nx.nil ..⟩ h⟩
 | succ K ih=>
  intro n pre l v last hlK hn ha hl hlast hv
  cases n with
  | zero=>omega
  | succ n=>
  cases hll:l with
  | nil=>
   rw [Zb7,if_neg (by rw [ha,hll]; simp)]
   exact⟨_,rfl,fun _=>rfl,fun h=>absurd ⟨[],rfl,Nx.nil ..⟩ h⟩
  | cons b0 l'=>
  have hne:l ≠ []:=by rw [hll]; exact List.cons_ne_nil _ _
  have hpos:0<l.length:=List.length_pos_iff.2 hne
  have halen:a0.length=pre.length + l.length:=by rw [ha,List.length_append]
  have h0:l[0]? = some b0:=by rw [hll]; rfl
  have hdrop:a0.drop pre.length=l:=by rw [ha,List.drop_left' rfl]
  have i0:idx a0 (pre.length:Int)=some b0:=by
   rw [Z1 (by omega),← List.getElem?_eq_getElem,← Nat.add_zero pre.length,← List.getElem?_drop,hdrop,h0]
  obtain⟨N,e1,_,g2⟩:=Z1p hf hdrop (by omega) hal h0 l.length 0 fuel rfl (by unfold fuel; omega) (by omega) (fun i h hi=>by omega)
  have g1:1≤N:=by
   rcases Nat.eq_zero_or_pos N with h | h
   ·subst h
    have:=g2.ne hpos
    rw [List.getElem?_eq_getElem hpos,Option.some.injEq] at h0
    rw [h0] at this
    exact absurd rfl this
   ·exact h
  rw [← hll]
  obtain⟨s1,s2,s3⟩:=Zu6 hf g1 g2 hne
  have hlok:∀ x∈l,BOk x:=fun x hx=>hok x (by rw [ha]; exact List.mem_append_right _ hx)
  have hb0:BOk b0:=hlok b0 (by rw [hll]; exact List.mem_cons_self ..)
  have hb0r:=hb0.at_ hf
  have htop:=topN hf
  have hN:=g2.h1
  have hpart:List.drop pre.length (List.take (pre.length + N) a0)=l.take N:=by rw [ha,List.take_length_add_append,List.drop_left' rfl]
  rw [Zb7,if_pos (by simp; omega)]
  rw [Nat.add_zero] at e1
  rw [e1]
  simp only [Option.bind_some,i0,Int.toNat_natCast,hpart]
  rw [if_pos ⟨by omega,by omega,by omega⟩]
  have htl:(l.take N).length≤1000000:=by rw [List.length_take]; omega
  rw [wsucc (i:=f) (by omega)]
  have hrun:=Nx.run (t:=topOf (f:Int)) (ts:=tops5.drop (f + 1)) (last:=last) (r:=b0.get (f:Int)) s2 s3
  rw [s1,hrun]
  have hgap:∃ og:Unit ⊕ Bool,(if decide ((pre.length:Int) > 0)=true then
     (idx a0 (IntKind.wrap .i64 ((pre.length:Int) - (1:Int)))).bind fun(x312:Bx)=>
     if 0≤(f:Int)∧(f:Int)<5 then
     if 0≤(f:Int)∧(f:Int)<5 then
     (if decide ((b0.get (f:Int)).Lo≤(x312.get (f:Int)).Hi)=true then some true else
      (if ((b0.get (f:Int)).Lo == (IntKind.wrap .u32 ((x312.get (f:Int)).Hi + (1:Int))))=true then
       (Zf1 v (l.take N) ((f + 1:Nat):Int)).bind fun(r322:Bool)=>
       some r322
       else some false).bind fun(v324:Bool)=>
      some v324
      ).bind fun(v326:Bool)=>
     if v326=true then
      (some (.inr false):Option (Unit ⊕ Bool))
     else
      some (.inl ())
     else none
     else none
    else
     some (.inl ()))=some og∧((∀ y∈last,gp y (b0.get (f:Int),(l.take N).map (sf (f + 1))))→og=.inl ())∧(¬ (∀ y∈last,gp y (b0.get (f:Int),(l.take N).map (sf (f + 1))))→og=.inr false):=by
   cases last with
   | none=>
    have hp:pre=[]:=hl
    rw [hp,if_neg (by decide)]
    exact⟨_,rfl,fun _=>rfl,fun h=>absurd (fun y hy=>by cases hy) h⟩
   | some y=>
    obtain⟨hv2,p0,b,hp,hbr⟩:=hl
    obtain⟨y1,y3,y4⟩:=hlast y rfl
    have hall:(∀ z∈some y,gp z (b0.get (f:Int),(l.take N).map (sf (f + 1)))) ↔ gp y (b0.get (f:Int),(l.take N).map (sf (f + 1))):=⟨fun h=>h y rfl,fun h z hz=>by cases hz; exact h⟩
    have hplen:pre.length=p0.length + 1:=by rw [hp,List.length_append]; rfl
    have ib:idx a0 (IntKind.wrap .i64 ((pre.length:Int) - (1:Int)))=some b:=by
     rw [wi64 (by omega) (by omega),hplen,show ((p0.length + 1:Nat):Int) - 1=((p0.length:Nat):Int) by omega,Z1 (by omega),← List.getElem?_eq_getElem,ha,hp]
     rw [List.append_assoc,List.getElem?_append_right (Nat.le_refl _),Nat.sub_self]
     rfl
    rw [if_pos (by simp; omega),ib]
    simp only [Option.bind_some]
    rw [if_pos ⟨by omega,by omega⟩,if_pos ⟨by omega,by omega⟩,hbr,hall]
    unfold gp
    by_cases c1:(b0.get (f:Int)).Lo≤y.1.Hi
    ·rw [if_pos (decide_eq_true c1)]
     simp only [Option.bind_some,if_true]
     exact⟨_,rfl,fun h=>by have:=h.1; omega,fun _=>rfl⟩
    ·rw [if_neg (by simpa using c1)]
     rw [wu32 (x:=y.1.Hi + 1) (by omega) (by omega)]
     by_cases c2:(b0.get (f:Int)).Lo=y.1.Hi + 1
     ·rw [if_pos (by simpa using c2),Z0u (by omega) (by omega),hv2]
      simp only [Option.bind_some,decide_eq_true_eq]
      by_cases c3:y.2=(l.take N).map (sf (f + 1))
      ·rw [if_pos c3]
       exact⟨_,rfl,fun h=>absurd c3 (h.2 (by omega)),fun _=>rfl⟩
      ·rw [if_neg c3]
       exact⟨_,rfl,fun _=>rfl,fun h=>absurd ⟨by omega,fun _=>c3⟩ h⟩
     ·rw [if_neg (by simpa using c2)]
      simp only [Option.bind_some,Bool.false_eq_true,if_false]
      exact⟨_,rfl,fun _=>rfl,fun h=>absurd ⟨by omega,fun h=>absurd h.symm c2⟩ h⟩
  obtain⟨og,og1,og2,og3⟩:=hgap
  rw [og1]
  by_cases hg:∀ y∈last,gp y (b0.get (f:Int),(l.take N).map (sf (f + 1)))
  ·rw [og2 hg]
   simp only [Option.bind_some]
   obtain⟨rv,z1,z2⟩:=hz (l.take N) (fun h=>s2 (by rw [h]; rfl)) htl (fun x hx=>hlok x (List.mem_of_mem_take hx))
   rw [z1]
   simp only [Option.bind_some]
   cases rv with
   | false=>
    simp only [Bool.not_false,if_true,Option.bind_some]
    have hncf:¬ CF (tops5.drop (f + 1)) ((l.take N).map (sf (f + 1))):=fun h=>by have:=z2.2 h; cases this
    exact⟨_,rfl,fun h=>absurd h.2.1 hncf,fun _=>rfl⟩
   | true=>
    simp only [Bool.not_true,Bool.false_eq_true,if_false,Option.bind_some]
    have hcf:=z2.1 rfl
    have hN2:(l.take N).length=N:=by rw [List.length_take]; omega
    have hpl:(pre++l.take N).length=pre.length + N:=by rw [List.length_append,hN2]
    rw [hN2,wi64 (by omega) (by omega),show (pre.length:Int) + (N:Int)=(((pre++l.take N).length:Nat):Int) by rw [hpl]; omega]
    have hlr:LastR f (pre++l.take N) (l.take N) (some (b0.get (f:Int),(l.take N).map (sf (f + 1)))):=by
     refine⟨rfl,pre++l.take (N - 1),(l[N - 1]'(by omega)),?_,g2.eq (N - 1) (by omega) (by omega)⟩
     rw [List.append_assoc]
     congr 1
     obtain⟨M,rfl⟩:∃ M,N=M + 1:=⟨N - 1,by omega⟩
     rw [List.take_add_one,List.getElem?_eq_getElem (by omega)]
     rfl
    obtain⟨o,o1,o2,o3⟩:=ih n (pre++l.take N) (l.drop N) (l.take N) (some (b0.get (f:Int),(l.take N).map (sf (f + 1)))) (by rw [List.length_drop]; omega) (by omega) (by rw [List.append_assoc,List.take_append_drop,ha]) hlr (fun y hy=>by
     cases hy
     exact⟨s2,by show 0≤(b0.get (f:Int)).Hi; omega,by show (b0.get (f:Int)).Hi<4294967296; omega⟩) htl
    refine⟨o,o1,fun h=>o2 h.2.2.2,fun h=>o3 fun h2=>h ⟨⟨by omega,by omega,by omega⟩,hcf,hg,h2⟩⟩
  ·rw [og3 hg]
   simp only [Option.bind_some]
   exact⟨_,rfl,fun h=>absurd h.2.2.1 hg,fun _=>rfl⟩
theorem Zww:∀(k f nr:Nat) (l:List Bx),f + k=5→k<nr→(f=5→l ≠ [])→l.length≤1000000→(∀ x∈l,BOk x)→∃ r,Zbl nr l (f:Int)=some r∧(r=true ↔ CF (tops5.drop f) (l.map (sf f))):=by
 intro k
 induction k with
 | zero=>
  intro f nr l hf hn hne hl hok
  have:f=5:=by omega
  subst this
  cases nr with
  | zero=>omega
  | succ nr=>
  rw [Zbl,if_pos (by decide)]
  refine⟨_,rfl,?_⟩
  show _ ↔ (l.map (sf 5)=[]∨l.map (sf 5)=[[]])
  rcases l with _ | ⟨x,_ | ⟨y,l⟩⟩
  ·exact absurd rfl (hne rfl)
  ·exact⟨fun _=>Or.inr rfl,fun _=>by simp⟩
  ·constructor
   ·intro h; simp at h; omega
   ·rintro(h | h) <;> simp at h
 | succ k ih=>
  intro f nr l hf hn hne hl hok
  have hf5:f<5:=by omega
  cases nr with
  | zero=>omega
  | succ nr=>
  rw [Zbl,if_neg (by simp; omega),Zmq hf5,CF_iff]
  obtain⟨o,o1,o2,o3⟩:=Ztd hf5 hl hok (z0:=Zbl nr) (fun l hne hl hok=>ih (f + 1) nr l (by omega) (by omega) (fun _=>hne) hl hok) l.length fuel [] l [] none (Nat.le_refl _) (by unfold fuel; omega) rfl rfl (fun y hy=>(by cases hy)) (by simp)
  rw [show (([]:List Bx).length:Int)=0 from rfl] at o1
  rw [o1]
  by_cases h:∃ c,l.map (sf f)=flt c∧Nx (topOf (f:Int)) (tops5.drop (f + 1)) none c
  ·rw [o2 h]
   exact⟨true,rfl,fun _=>h,fun _=>rfl⟩
  ·rw [o3 h]
   exact⟨false,rfl,fun h=>(by cases h),fun h2=>absurd h2 h⟩
theorem Zy2 {l:List Bx} (hl:l.length≤1000000) (hin:∀ x∈l,BIn x):∃ r,Zf2 l=some r∧(r=true ↔ VS l):=by
 unfold Zf2
 by_cases h1:l.length≤4096
 ·have hd:decide ((l.length:Int)≤4096)=true:=by simp; omega
  rw [hd]
  simp only [Option.bind_some,if_true]
  rw [Zzl (by omega)]
  simp only [Option.bind_some]
  by_cases h2:∀ x∈l,BOk x
  ·have he:(((l.filter vB).length:Int) == (l.length:Int))=true:=by rw [(Zms hin).2 h2]; simp
   rw [he]
   simp only [if_true]
   obtain⟨r,e,g⟩:=Zww 5 0 fuel l (by omega) (by unfold fuel; omega) (by omega) hl h2
   rw [show ((0:Nat):Int)=0 from rfl] at e
   rw [e]
   refine⟨r,rfl,g.trans ⟨fun h=>⟨h1,h2,h⟩,fun h=>h.cf⟩⟩
  ·have he:(((l.filter vB).length:Int) == (l.length:Int))=false:=by
    have h3:¬ (l.filter vB).length=l.length:=fun h=>h2 ((Zms hin).1 h)
    simp only [beq_eq_false_iff_ne,ne_eq]
    omega
   rw [he]
   exact⟨false,rfl,fun h=>(by cases h),fun h=>absurd h.ok h2⟩
 ·have hd:decide ((l.length:Int)≤4096)=false:=by simp; omega
  rw [hd]
  exact⟨false,rfl,fun h=>(by cases h),fun h=>absurd h.len h1⟩
end Go.AM
set_option maxRecDepth 100000
namespace Go.AM
open Go
def sumL {α:Type} (f:α→Nat) (l:List α):Nat:=l.foldr (fun x n=>f x + n) 0
theorem Ze1 {α:Type} (f:α→Nat) (x:α) (l:List α):sumL f (x :: l)=f x + sumL f l:=rfl
theorem Zn8 {α:Type} (f g:α→Nat) (l:List α):sumL (fun x=>f x + g x) l=sumL f l + sumL g l:=by
 induction l with
 | nil=>rfl
 | cons x l ih=>rw [Ze1,Ze1,Ze1,ih]; omega
theorem Z1q {α:Type} {f g:α→Nat} {l:List α} (h:∀ x∈l,f x≤g x):sumL f l≤sumL g l:=by
 induction l with
 | nil=>exact Nat.le_refl _
 | cons x l ih=>
  rw [Ze1,Ze1]
  have:=h x (List.mem_cons_self ..)
  have:=ih fun y hy=>h y (List.mem_cons_of_mem _ hy)
  omega
theorem Zrw {α:Type} (k:Nat) (f:α→Nat) (l:List α):sumL (fun x=>k * f x) l=k * sumL f l:=by
 induction l with
 | nil=>rfl
 | cons x l ih=>rw [Ze1,Ze1,ih,Nat.mul_add]
theorem Zx8 {α:Type} (p:α→Bool) (f:α→Nat) (l:List α):sumL (fun x=>if p x=true then f x else 0) l=sumL f (l.filter p):=by
 induction l with
 | nil=>rfl
 | cons x l ih=>
  rw [Ze1,ih,List.filter_cons]
  cases p x
  ·simp
  ·simp [Ze1]
theorem Zte {α:Type} (k:Nat) (l:List α):sumL (fun _=>k) l=l.length * k:=by
 induction l with
 | nil=>simp [sumL]
 | cons x l ih=>rw [Ze1,ih,List.length_cons,Nat.succ_mul]; omega
theorem Z1r (c:List Cell):(flt c).length=sumL (fun x=>x.2.length) c:=by
 induction c with
 | nil=>rfl
 | cons x c ih=>rw [Zhw,List.length_append,List.length_map,ih,Ze1]
theorem Zq5 (x:Cell) (d:List Cell) (v:Int):(lk (x :: d) v).length=(if inR v x.1=true then x.2.length else 0) + (lk d v).length:=by
 rw [Ziq,List.length_append]
 cases inR v x.1 <;> simp
theorem sum_lk {M:Nat} (vs:List Int):∀(d:List Cell),(∀ x∈d,(vs.filter (inR · x.1)).length≤M)→sumL (fun v=>(lk d v).length) vs≤M * (flt d).length
 | [],_=>by
  have:sumL (fun v=>(lk ([]:List Cell) v).length) vs=0:=by
   rw [show (fun v:Int=>(lk ([]:List Cell) v).length)=fun _=>0 from rfl,Zte]; simp
  omega
 | x :: d,h=>by
  have e:(fun v=>(lk (x :: d) v).length)=fun v=>(if inR v x.1=true then x.2.length else 0) + (lk d v).length:=funext fun v=>Zq5 x d v
  have ih:=sum_lk vs d fun y hy=>h y (List.mem_cons_of_mem _ hy)
  have hx:=h x (List.mem_cons_self ..)
  rw [e,Zn8,Zx8 (fun v=>inR v x.1),Zte,Zhw,List.length_append,List.length_map,Nat.mul_add]
  have:=Nat.mul_le_mul_right x.2.length hx
  omega
theorem Zx9 (vs:List Int) (d':List Cell):∀(d:List Cell),(∀ x∈d,∀ y∈d',((vs.filter (inR · x.1)).filter (inR · y.1)).length≤1)→sumL (fun v=>(lk d v).length * (lk d' v).length) vs≤(flt d).length * (flt d').length
 | [],_=>by
  have:sumL (fun v=>(lk ([]:List Cell) v).length * (lk d' v).length) vs=0:=by
   rw [show (fun v:Int=>(lk ([]:List Cell) v).length * (lk d' v).length)=fun v=>0 * (lk d' v).length from rfl,Zrw]; simp
  omega
 | x :: d,h=>by
  have e:(fun v=>(lk (x :: d) v).length * (lk d' v).length)=fun v=>(if inR v x.1=true then x.2.length * (lk d' v).length else 0) + (lk d v).length * (lk d' v).length:=funext fun v=>by
   rw [Zq5,Nat.add_mul]
   cases inR v x.1 <;> simp
  have ih:=Zx9 vs d' d fun y hy=>h y (List.mem_cons_of_mem _ hy)
  have h1:=sum_lk (M:=1) (vs.filter (inR · x.1)) d' fun y hy=>h x (List.mem_cons_self ..) y hy
  rw [e,Zn8,Zx8 (fun v=>inR v x.1) (fun v=>x.2.length * (lk d' v).length),Zrw,Zhw,List.length_append,List.length_map,Nat.add_mul]
  have:=Nat.mul_le_mul_left x.2.length h1
  rw [Nat.one_mul] at this
  omega
theorem Zu8 {l:List Int} (h:l.Pairwise (·<·)):l.Nodup:=h.imp fun h=>by omega
def ends2 (c:List Cell):List Int:=c.flatMap fun x=>[x.1.Lo,x.1.Hi + 1]
theorem Zzt (c:List Cell):(ends2 c).length=2 * c.length:=by
 induction c with
 | nil=>rfl
 | cons x c ih=>unfold ends2 at *; rw [List.flatMap_cons,List.length_append,ih]; simp; omega
theorem Zrx {t:Int} {c:List Cell} (h:Ord t c) {x:Cell} (hx:x∈c) {v:Int} (hv:v∈ends2 c) (hr:inR v x.1=true):v=x.1.Lo:=by
 rw [Zdz] at hr
 obtain⟨y,hy,hvy⟩:=List.mem_flatMap.1 hv
 have hxo:=h.ok x hx
 have hyo:=h.ok y hy
 obtain⟨i,hi,rfl⟩:=List.getElem_of_mem hx
 obtain⟨j,hj,rfl⟩:=List.getElem_of_mem hy
 have hp:=List.pairwise_iff_getElem.1 h.pw
 simp only [List.mem_cons,List.not_mem_nil,or_false] at hvy
 rcases Nat.lt_trichotomy i j with h1 | h1 | h1
 ·have:=(hp i j hi hj h1).1
  omega
 ·subst h1; omega
 ·have:=(hp j i hj hi h1).1
  omega
theorem Zya {t:Int} {c:List Cell} (h:Ord t c) {v:Int} (hv:¬ v∈ends2 c):lk c v=lk c (v - 1):=by
 have key:∀ x∈c,x.1.Lo ≠ v∧x.1.Hi + 1 ≠ v:=fun x hx=>⟨fun e=>hv (List.mem_flatMap.2 ⟨x,hx,by simp [e]⟩),fun e=>hv (List.mem_flatMap.2 ⟨x,hx,by simp [e]⟩)⟩
 clear h hv
 induction c with
 | nil=>rfl
 | cons x c ih=>
  rw [Ziq,Ziq,ih fun y hy=>key y (List.mem_cons_of_mem _ hy)]
  have:=key x (List.mem_cons_self ..)
  have e:inR v x.1=inR (v - 1) x.1:=by rw [Bool.eq_iff_iff,Zdz,Zdz]; omega
  rw [e]
theorem Ztf {op:Bool→Bool→Bool} (hff:op false false=false):∀(ts:List Int) {a b l:List RL},CF ts a→CF ts b→Is op ts a b l→l.length≤4 * ts.length * (a.length * b.length) + a.length + b.length
 | [],a,b,l,ha,hb,h=>by
  have hm:=h.mem [] trivial
  rcases ha with rfl | rfl <;> rcases hb with rfl | rfl <;> rcases h.cf with rfl | rfl <;> simp [mS,mB,hff] at hm ⊢
 | t :: ts,a,b,l,ha,hb,h=>by
  obtain⟨ca,rfl,hao,hac⟩:=ha
  obtain⟨cb,rfl,hbo,hbc⟩:=hb
  obtain⟨c,rfl,ho,hc⟩:=h.cf
  have hat:∀ v,0≤v→v≤t→Is op ts (lk ca v) (lk cb v) (lk c v):=fun v h0 h1=>by
   have:=Is.at_ ho hc h h0 h1
   rw [Zlh,Zlh] at this
   exact this
  have hvs:(c.map (·.1.Lo)).Pairwise (·<·):=by
   rw [List.pairwise_map]
   refine List.Pairwise.imp_of_mem ?_ ho.pw
   intro x y hx _ hg
   have:=ho.ok x hx
   have:=hg.1
   omega
  have hin:∀ v∈c.map (·.1.Lo),v∈ends2 ca∨v∈ends2 cb:=by
   intro v hv
   obtain⟨x,hx,rfl⟩:=List.mem_map.1 hv
   have hxo:=ho.ok x hx
   apply Classical.byContradiction
   intro hn
   have h1:¬ x.1.Lo∈ends2 ca:=fun h=>hn (Or.inl h)
   have h2:¬ x.1.Lo∈ends2 cb:=fun h=>hn (Or.inr h)
   have e1:=Zya hao h1
   have e2:=Zya hbo h2
   have hx1:lk c x.1.Lo=x.2:=lk_mem ho hx (Int.le_refl _) hxo.2.1
   have g1:=hat x.1.Lo hxo.1 (by omega)
   by_cases h0:x.1.Lo=0
   ·rw [e1,e2,lk_out hao (by omega),lk_out hbo (by omega)] at g1
    have:lk c x.1.Lo=[]:=g1.inj ⟨CF_nil _,fun p _=>by rw [mS_nil,hff]⟩
    rw [hx1] at this
    exact hxo.2.2.2 this
   ·have g2:=hat (x.1.Lo - 1) (by omega) (by omega)
    rw [e1,e2] at g1
    have e3:=g1.inj g2
    rw [hx1] at e3
    obtain⟨y,hy,h3,h4⟩:=Zli (c:=c) (v:=x.1.Lo - 1) (by rw [← e3]; exact hxo.2.2.2)
    rw [lk_mem ho hy h3 h4] at e3
    obtain⟨i,hi,rfl⟩:=List.getElem_of_mem hx
    obtain⟨j,hj,rfl⟩:=List.getElem_of_mem hy
    have hp:=List.pairwise_iff_getElem.1 ho.pw
    rcases Nat.lt_trichotomy i j with h5 | h5 | h5
    ·have:=(hp i j hi hj h5).1; omega
    ·subst h5; omega
    ·have hg:=hp j i hj hi h5
     have:=hg.1
     exact hg.2 (by omega) e3.symm
  generalize hV:c.map (·.1.Lo)=vs at hvs hin
  have cnt:∀ {d d':List Cell},Ord t d→(∀ v∈vs,v∈ends2 d∨v∈ends2 d')→∀ x∈d,(vs.filter (inR · x.1)).length≤2 * d'.length + 1:=by
   intro d d' hd hdv x hx
   have hs:(vs.filter (inR · x.1)) ⊆ x.1.Lo :: ends2 d':=by
    intro v hv
    obtain⟨h1,h2⟩:=List.mem_filter.1 hv
    rcases hdv v h1 with h3 | h3
    ·rw [Zrx hd hx h3 h2]; exact List.mem_cons_self ..
    ·exact List.mem_cons_of_mem _ h3
   have:=List.Nodup.length_le_of_subset (Zu8 (hvs.filter _)) hs
   rw [List.length_cons,Zzt] at this
   exact this
  have s1:=sum_lk vs ca (cnt hao hin)
  have s2:=sum_lk vs cb (cnt hbo fun v hv=>(hin v hv).symm)
  have s3:=Zx9 vs cb ca (fun x hx y hy=>by
   have hs:((vs.filter (inR · x.1)).filter (inR · y.1)) ⊆ [max x.1.Lo y.1.Lo]:=by
    intro v hv
    obtain⟨h1,h2⟩:=List.mem_filter.1 hv
    obtain⟨h3,h4⟩:=List.mem_filter.1 h1
    have h2':=Zdz.1 h2
    have h4':=Zdz.1 h4
    rw [List.mem_singleton]
    rcases hin v h3 with h5 | h5
    ·have:=Zrx hao hx h5 h4; omega
    ·have:=Zrx hbo hy h5 h2; omega
   have:=List.Nodup.length_le_of_subset (Zu8 ((hvs.filter _).filter _)) hs
   simpa using this)
  have total:(flt c).length≤sumL (fun v=>4 * ts.length * ((lk ca v).length * (lk cb v).length) + (lk ca v).length + (lk cb v).length) vs:=by
   rw [Z1r,← hV]
   have e:∀(d:List Cell) (f:Int→Nat),sumL f (d.map (·.1.Lo))=sumL (fun x=>f x.1.Lo) d:=by
    intro d f
    induction d with
    | nil=>rfl
    | cons x d ih=>rw [List.map_cons,Ze1,Ze1,ih]
   rw [e]
   refine Z1q fun x hx=>?_
   have hxo:=ho.ok x hx
   have g1:=hat x.1.Lo hxo.1 (by omega)
   rw [lk_mem ho hx (Int.le_refl _) hxo.2.1] at g1
   exact Ztf hff ts (CF_lk hao hac _) (CF_lk hbo hbc _) g1
  rw [Zn8,Zn8,Zrw] at total
  have la:=hao.len
  have lb:=hbo.len
  have m3:=Nat.mul_le_mul_left (4 * ts.length) s3
  have n1:(2 * cb.length + 1) * (flt ca).length≤(2 * (flt cb).length + 1) * (flt ca).length:=Nat.mul_le_mul_right _ (by omega)
  have n2:(2 * ca.length + 1) * (flt cb).length≤(2 * (flt ca).length + 1) * (flt cb).length:=Nat.mul_le_mul_right _ (by omega)
  rw [Nat.add_mul,Nat.one_mul] at n1 n2
  have c1:2 * (flt cb).length * (flt ca).length=2 * ((flt ca).length * (flt cb).length):=by rw [Nat.mul_assoc,Nat.mul_comm (flt cb).length]
  have c2:2 * (flt ca).length * (flt cb).length=2 * ((flt ca).length * (flt cb).length):=by rw [Nat.mul_assoc]
  have n1':(2 * cb.length + 1) * (flt ca).length≤(2 * (flt cb).length) * (flt ca).length + (flt ca).length:=by
   have:=Nat.mul_le_mul_right (flt ca).length (show 2 * cb.length + 1≤2 * (flt cb).length + 1 by omega)
   rw [Nat.add_mul (2 * (flt cb).length),Nat.one_mul] at this
   exact this
  have n2':(2 * ca.length + 1) * (flt cb).length≤(2 * (flt ca).length) * (flt cb).length + (flt cb).length:=by
   have:=Nat.mul_le_mul_right (flt cb).length (show 2 * ca.length + 1≤2 * (flt ca).length + 1 by omega)
   rw [Nat.add_mul (2 * (flt ca).length),Nat.one_mul] at this
   exact this
  rw [c1] at n1'
  rw [c2] at n2'
  have fin:4 * (t :: ts).length * ((flt ca).length * (flt cb).length)=4 * ts.length * ((flt ca).length * (flt cb).length) + 4 * ((flt ca).length * (flt cb).length):=by
   rw [List.length_cons,Nat.mul_add,Nat.add_mul]
  omega
theorem Can.size {op:Bool→Bool→Bool} (hff:op false false=false) {a b l:List Bx} (ha:CFb a) (hb:CFb b) (h:Can op a b l):l.length≤20 * (a.length * b.length) + a.length + b.length:=by
 have:=Ztf hff tops5 ha hb h.is
 rw [List.length_map,List.length_map,List.length_map] at this
 exact this
theorem Can.size2 {op:Bool→Bool→Bool} (hff:op false false=false) {a b l:List Bx} (ha:CFb a) (hb:CFb b) (h:Can op a b l) (h1:a.length≤4096) (h2:b.length≤4096):l.length≤2000000000:=by
 have:=h.size hff ha hb
 have:=Nat.mul_le_mul h1 h2
 omega
end Go.AM
set_option maxRecDepth 100000
namespace Go.AM
open Go
noncomputable def can (op:Bool→Bool→Bool) (a b:List Bx):List Bx:=(Can.ex op a b).choose
theorem Zgd (op:Bool→Bool→Bool) (a b:List Bx):Can op a b (can op a b):=(Can.ex op a b).choose_spec
theorem Can.eq {op:Bool→Bool→Bool} {a b l:List Bx} (h:Can op a b l):can op a b=l:=(Zgd op a b).inj h
def oO (x y:Bool):Bool:=x || y
def oA (x y:Bool):Bool:=x && y
def oW (x y:Bool):Bool:=x && !y
theorem opc0:opc 0=oO:=funext fun x=>funext fun y=>rfl
theorem opc1:opc 1=oA:=funext fun x=>funext fun y=>rfl
theorem opc2:opc 2=oW:=funext fun x=>funext fun y=>rfl
theorem Zu9:∀(ts:List Int) {b:RL},vR ts b→CF ts [b]
 | [],b,h=>by
  cases b with
  | nil=>exact .inr rfl
  | cons _ _=>exact h.elim
 | t :: ts,b,h=>by
  cases b with
  | nil=>exact h.elim
  | cons r b=>
   obtain⟨h0,h1,h2,h3⟩:=h
   refine⟨[(r,[b])],rfl,⟨List.pairwise_singleton ..,fun x hx=>?_⟩,fun x hx=>?_⟩
   ·rw [List.mem_singleton] at hx; subst hx; exact⟨h0,h1,h2,List.cons_ne_nil _ _⟩
   ·rw [List.mem_singleton] at hx; subst hx; exact Zu9 ts h3
theorem ok_vR {b:Bx} (h:BOk b):vR tops5 (toL b):=
 ⟨h.h0.h0,h.h0.h1,h.h0.h2,h.h1.h0,h.h1.h1,h.h1.h2,h.h2.h0,h.h2.h1,h.h2.h2,h.h3.h0,h.h3.h1,h.h3.h2,h.h4.h0,h.h4.h1,h.h4.h2,trivial⟩
theorem CFb.single {b:Bx} (h:BOk b):CFb [b]:=Zu9 tops5 (ok_vR h)
noncomputable def mkF:List Bx→List Bx→List Bx × Int
 | s,[]=>(s,0)
 | s,b :: l=>if (can oO s [b]).length≤4096 then mkF (can oO s [b]) l else ([],3)
noncomputable def mk (l:List Bx):List Bx × Int:=mkF [] (l.filter vB)
theorem combO {a b:List Bx} (hl:a.length + b.length≤400000) (ha:∀ x∈a,BOk x) (hb:∀ x∈b,BOk x):Zbj a b=some (capB (can oO a b)):=Zue hl ha hb (Zgd oO a b)
theorem Z1s (r:List Bx) (hr:r.length≤1000000) (hok:∀ x∈r,BOk x):∀(K i n:Nat) (s:List Bx),r.length - i=K→K<n→VS s→i≤r.length→∃ o,Zdu r n s (i:Int)=some o∧mkF s (r.drop i)=match o with
   | .inl v=>(v,0)
   | .inr z=>z:=by
 intro K
 induction K with
 | zero=>
  intro i n s hK hn hs hi
  cases n with
  | zero=>omega
  | succ n=>
  rw [Zdu,if_neg (by simp; omega),List.drop_eq_nil_of_le (by omega)]
  exact⟨_,rfl,rfl⟩
 | succ K ih=>
  intro i n s hK hn hs hi
  cases n with
  | zero=>omega
  | succ n=>
  have hil:i<r.length:=by omega
  have hb:=hok _ (List.getElem_mem hil)
  have hsl:=hs.len
  rw [Zdu,if_pos (by simp; omega),Z1 hil]
  simp only [Option.bind_some]
  rw [combO (by simp; omega) hs.ok (fun x hx=>by rw [List.mem_singleton] at hx; rw [hx]; exact hb)]
  rw [List.drop_eq_getElem_cons hil]
  simp only [Option.bind_some,capB,mkF]
  by_cases h:(can oO s [r[i]]).length≤4096
  ·rw [if_pos h,if_pos h]
   simp only [bne_self_eq_false,Bool.false_eq_true,if_false]
   rw [wsucc (by omega)]
   exact ih (i + 1) n _ (by omega) (by omega) (VS.of (Zgd oO s [r[i]]).cf h) (by omega)
  ·rw [if_neg h,if_neg h]
   exact⟨_,rfl,rfl⟩
theorem VS.nil:VS []:=⟨by simp,fun _ h=>(by cases h),CFb.nil⟩
theorem Zwx {l:List Bx} (hl:l.length≤1000000) (hin:∀ x∈l,BIn x):Zfo l=some (mk l):=by
 unfold Zfo
 rw [Zu2 (by omega)]
 simp only [Option.bind_some]
 have hfl:=List.length_filter_le vB l
 obtain⟨o,e,g⟩:=Z1s (l.filter vB) (by omega) (fun x hx=>by
  obtain⟨h1,h2⟩:=List.mem_filter.1 hx
  exact vB_ok (hin x h1) h2) _ 0 fuel [] rfl (by unfold fuel; omega) VS.nil (by omega)
 rw [show ((0:Nat):Int)=0 from rfl] at e
 rw [e]
 rw [List.drop_zero] at g
 unfold mk
 rw [g]
 cases o <;> rfl
theorem Z1t (r:List Bx) (hr:r.length≤300000) (hin:∀ x∈r,BIn x):∀(K i n:Nat) (s:List Bx),r.length - i=K→K<n→VS s→i≤r.length→∃ o,Zec r n s (i:Int)=some o∧mkF s ((r.drop i).filter vB)=match o with
   | .inl v=>(v,0)
   | .inr z=>z:=by
 intro K
 induction K with
 | zero=>
  intro i n s hK hn hs hi
  cases n with
  | zero=>omega
  | succ n=>
  rw [Zec,if_neg (by simp; omega),List.drop_eq_nil_of_le (by omega)]
  exact⟨_,rfl,rfl⟩
 | succ K ih=>
  intro i n s hK hn hs hi
  cases n with
  | zero=>omega
  | succ n=>
  have hil:i<r.length:=by omega
  have hsl:=hs.len
  have hpart:List.drop i (List.take (i + 1) r)=[r[i]]:=by
   rw [List.drop_take,show i + 1 - i=1 by omega,List.drop_eq_getElem_cons hil]
   rfl
  rw [Zec,if_pos (by simp; omega),Z1 hil]
  simp only [Option.bind_some,Zih]
  rw [wsucc (by omega),List.drop_eq_getElem_cons hil,List.filter_cons]
  simp only [Int.toNat_natCast,hpart]
  by_cases hv:vB r[i]=true
  ·have hb:BOk r[i]:=vB_ok (hin _ (List.getElem_mem hil)) hv
   rw [hv]
   simp only [Bool.not_true,Bool.false_eq_true,if_false,if_true]
   rw [if_pos ⟨by omega,by omega,by omega⟩]
   have hC:=Zgd oO s [r[i]]
   rw [Zu5 (k:=0) (by simp; omega) hs.ok (fun x hx=>by rw [List.mem_singleton] at hx; rw [hx]; exact hb) (by rw [opc0]; exact hC) (hC.size2 rfl hs.cf (CFb.single hb) hs.len (by simp))]
   simp only [Option.bind_some,Ztb,capB,mkF]
   by_cases h:(can oO s [r[i]]).length≤4096
   ·rw [if_pos h,if_pos h]
    simp only [bne_self_eq_false,Bool.false_eq_true,if_false,Option.bind_some]
    exact ih (i + 1) n _ (by omega) (by omega) (VS.of (Zgd oO s [r[i]]).cf h) (by omega)
   ·rw [if_neg h,if_neg h]
    exact⟨_,rfl,rfl⟩
  ·rw [Bool.not_eq_true] at hv
   rw [hv]
   simp only [Bool.not_false,if_true,Option.bind_some,Bool.false_eq_true,if_false]
   exact ih (i + 1) n _ (by omega) (by omega) hs (by omega)
theorem Zwy {l:List Bx} (hl:l.length≤300000) (hin:∀ x∈l,BIn x):Zgn l=some (mk l):=by
 unfold Zgn
 obtain⟨o,e,g⟩:=Z1t l hl hin _ 0 fuel [] rfl (by unfold fuel; omega) VS.nil (by omega)
 rw [show ((0:Nat):Int)=0 from rfl] at e
 rw [e]
 rw [List.drop_zero] at g
 unfold mk
 rw [g]
 cases o <;> rfl
noncomputable def vSb (l:List Bx):Bool:=@decide (VS l) (Classical.propDecidable _)
theorem Zns {l:List Bx}:vSb l=true ↔ VS l:=by unfold vSb; exact @decide_eq_true_iff _ (Classical.propDecidable _)
theorem Zyb {r:Bool} {p:Prop} {q:Bool} (h1:r=true ↔ p) (h2:q=true ↔ p):r=q:=by
 rw [Bool.eq_iff_iff,h1,h2]
theorem pVal {l:List Bx} (hl:l.length≤300000) (hin:∀ x∈l,BIn x):Zee l=some (vSb l):=by
 obtain⟨r,e,g⟩:=Zzr (by omega) hin
 rw [e,Zyb g Zns]
theorem rVal {l:List Bx} (hl:l.length≤300000) (hin:∀ x∈l,BIn x):Zf2 l=some (vSb l):=by
 obtain⟨r,e,g⟩:=Zy2 (by omega) hin
 rw [e,Zyb g Zns]
noncomputable def st (l:List Bx):List Bx × Int:=if vSb l=true then (l,0) else mk l
theorem Zlj {l:List Bx} (hl:l.length≤300000) (hin:∀ x∈l,BIn x):Zc8 l=some (st l):=by
 unfold Zc8 st
 rw [pVal hl hin]
 simp only [Option.bind_some]
 split
 ·rfl
 ·rw [Zwx (by omega) hin]; rfl
theorem Zva {l:List Bx} (hl:l.length≤300000) (hin:∀ x∈l,BIn x):Zf3 l=some (st l):=by
 unfold Zf3 st
 rw [rVal hl hin]
 simp only [Option.bind_some]
 split
 ·rfl
 ·rw [Zwy (by omega) hin]; rfl
theorem Z1u (a b:List Bx) (p:List Int):mem (a++b) p=(mem a p || mem b p):=by unfold mem; rw [List.map_append,mS_app]
structure SetOr (r:List Bx × Int):Prop where
 vs:VS r.1
 err:r.2=0∨r=([],3)
theorem mkF_ok:∀(l s:List Bx),VS s→SetOr (mkF s l)∧((mkF s l).2=0→∀ p,vP tops5 p→mem (mkF s l).1 p=(mem s p || mem l p))
 | [],s,hs=>⟨⟨hs,Or.inl rfl⟩,fun _ p _=>by rw [Zud,Bool.or_false]; rfl⟩
 | b :: l,s,hs=>by
  simp only [mkF]
  by_cases h:(can oO s [b]).length≤4096
  ·rw [if_pos h]
   have hC:=Zgd oO s [b]
   obtain⟨g1,g2⟩:=mkF_ok l (can oO s [b]) (VS.of hC.cf h)
   refine⟨g1,fun h0 p hp=>?_⟩
   rw [g2 h0 p hp,hC.mem p hp,show b :: l=[b]++l from rfl,Z1u [b] l,oO,Bool.or_assoc]
  ·rw [if_neg h]
   exact⟨⟨VS.nil,Or.inr rfl⟩,fun h=>by cases h⟩
theorem st_ok (l:List Bx):SetOr (st l)∧((st l).2=0→∀ p,vP tops5 p→mem (st l).1 p=mem (l.filter vB) p):=by
 unfold st
 by_cases h:vSb l=true
 ·rw [if_pos h]
  have hv:=Zns.1 h
  refine⟨⟨hv,Or.inl rfl⟩,fun _ p _=>?_⟩
  rw [List.filter_eq_self.2 fun x hx=>ok_vB (hv.ok x hx)]
 ·rw [if_neg h]
  obtain⟨g1,g2⟩:=mkF_ok (l.filter vB) [] VS.nil
  exact⟨g1,fun h0 p hp=>by unfold mk; rw [g2 h0 p hp,Zud,Bool.false_or]⟩
theorem Znt {l:List Bx} (h:VS l):st l=(l,0):=by unfold st; rw [if_pos (Zns.2 h)]
noncomputable def cmb (op:Bool→Bool→Bool) (a b:List Bx):List Bx × Int:=
 if (st a).2 ≠ 0 then ([],(st a).2) else if (st b).2 ≠ 0 then ([],(st b).2) else capB (can op (st a).1 (st b).1)
theorem Z1v {op:Bool→Bool→Bool} {a b:List Bx}:SetOr (capB (can op a b)):=by
 unfold capB
 by_cases h:(can op a b).length≤4096
 ·rw [if_pos h]; exact⟨VS.of (Zgd op a b).cf h,Or.inl rfl⟩
 ·rw [if_neg h]; exact⟨VS.nil,Or.inr rfl⟩
theorem SetOr.three {r:List Bx × Int} (h:SetOr r) (hr:r.2 ≠ 0):r=([],3):=h.err.resolve_left hr
theorem cmb_ok (op:Bool→Bool→Bool) (a b:List Bx):SetOr (cmb op a b)∧((cmb op a b).2=0→∀ p,vP tops5 p→mem (cmb op a b).1 p=op (mem (a.filter vB) p) (mem (b.filter vB) p)):=by
 have ha:=st_ok a
 have hb:=st_ok b
 unfold cmb
 by_cases h1:(st a).2 ≠ 0
 ·rw [if_pos h1,ha.1.three h1]; exact⟨⟨VS.nil,Or.inr rfl⟩,fun h=>by cases h⟩
 ·rw [if_neg h1]
  by_cases h2:(st b).2 ≠ 0
  ·rw [if_pos h2,hb.1.three h2]; exact⟨⟨VS.nil,Or.inr rfl⟩,fun h=>by cases h⟩
  ·rw [if_neg h2]
   refine⟨Z1v,fun h0 p hp=>?_⟩
   have hc:=Zgd op (st a).1 (st b).1
   unfold capB at h0 ⊢
   split at h0
   ·rename_i h
    rw [if_pos h]
    show mem (can op (st a).1 (st b).1) p=_
    rw [hc.mem p hp,ha.2 (by simpa using h1) p hp,hb.2 (by simpa using h2) p hp]
   ·cases h0
theorem Zzu {a b:List Bx} (ha:a.length≤300000) (hb:b.length≤300000) (hai:∀ x∈a,BIn x) (hbi:∀ x∈b,BIn x):Zgi a b=some (cmb oO a b):=by
 have sa:=(st_ok a).1.vs
 have sb:=(st_ok b).1.vs
 have la:=sa.len
 have lb:=sb.len
 unfold Zgi Ze8 cmb
 rw [Zlj ha hai]
 simp only [Option.bind_some,bne_iff_ne]
 split
 ·rfl
 ·rw [Zlj hb hbi]
  simp only [Option.bind_some]
  split
  ·rfl
  ·rw [combO (by omega) sa.ok sb.ok]
   rfl
theorem Zok {a b:List Bx} (ha:a.length≤300000) (hb:b.length≤300000) (hai:∀ x∈a,BIn x) (hbi:∀ x∈b,BIn x):Zdx a b=some (cmb oA a b):=by
 have sa:=(st_ok a).1.vs
 have sb:=(st_ok b).1.vs
 have la:=sa.len
 have lb:=sb.len
 unfold Zdx Zfq cmb
 rw [Zlj ha hai]
 simp only [Option.bind_some,bne_iff_ne]
 split
 ·rfl
 ·rw [Zlj hb hbi]
  simp only [Option.bind_some]
  split
  ·rfl
  ·rw [Zwv (by omega) sa.ok sb.ok (Zgd oA _ _)]
   rfl
theorem Zwz {a b:List Bx} (ha:a.length≤300000) (hb:b.length≤300000) (hai:∀ x∈a,BIn x) (hbi:∀ x∈b,BIn x):Ze7 a b=some (cmb oW a b):=by
 have sa:=(st_ok a).1.vs
 have sb:=(st_ok b).1.vs
 have la:=sa.len
 have lb:=sb.len
 unfold Ze7 Ze2 cmb
 rw [Zlj ha hai]
 simp only [Option.bind_some,bne_iff_ne]
 split
 ·rfl
 ·rw [Zlj hb hbi]
  simp only [Option.bind_some]
  split
  ·rfl
  ·rw [Ztc (by omega) sa.ok sb.ok (Zgd oW _ _)]
   rfl
theorem Zm6 {k:Int} {a b:List Bx} (ha:a.length≤300000) (hb:b.length≤300000) (hai:∀ x∈a,BIn x) (hbi:∀ x∈b,BIn x):Zeg a b k=some (cmb (opc k) a b):=by
 have sa:=(st_ok a).1.vs
 have sb:=(st_ok b).1.vs
 have la:=sa.len
 have lb:=sb.len
 unfold Zeg cmb
 rw [Zva ha hai]
 simp only [Option.bind_some,bne_iff_ne]
 split
 ·rfl
 ·rw [Zva hb hbi]
  simp only [Option.bind_some]
  split
  ·rfl
  ·have hC:=Zgd (opc k) (st a).1 (st b).1
   rw [Zu5 (by omega) sa.ok sb.ok hC (hC.size2 (opc_ff k) sa.cf sb.cf sa.len sb.len)]
   simp only [Option.bind_some,Ztb]
theorem Zzv {a b:List Bx} (ha:a.length≤300000) (hb:b.length≤300000) (hai:∀ x∈a,BIn x) (hbi:∀ x∈b,BIn x):Zf4 a b=some (cmb oO a b):=by
 unfold Zf4; rw [Zm6 ha hb hai hbi,opc0]; rfl
theorem Zuf {a b:List Bx} (ha:a.length≤300000) (hb:b.length≤300000) (hai:∀ x∈a,BIn x) (hbi:∀ x∈b,BIn x):Zeo a b=some (cmb oA a b):=by
 unfold Zeo; rw [Zm6 ha hb hai hbi,opc1]; rfl
theorem Zvp {a b:List Bx} (ha:a.length≤300000) (hb:b.length≤300000) (hai:∀ x∈a,BIn x) (hbi:∀ x∈b,BIn x):Zew a b=some (cmb oW a b):=by
 unfold Zew; rw [Zm6 ha hb hai hbi,opc2]; rfl
theorem Zw0 (a:List Bx):cmb oO a []=st a:=by
 have ha:=st_ok a
 unfold cmb
 rw [Znt VS.nil]
 by_cases h1:(st a).2 ≠ 0
 ·rw [if_pos h1,ha.1.three h1]
 ·rw [if_neg h1,if_neg (by simp)]
  have:can oO (st a).1 []=(st a).1:=(Can.right (fun x=>by cases x <;> rfl) ha.1.vs.cf).eq
  rw [this]
  unfold capB
  rw [if_pos ha.1.vs.len]
  have h2:(st a).2=0:=by simpa using h1
  rw [← h2]
end Go.AM
set_option maxRecDepth 100000
namespace Go.AM
open Go
theorem Zvq {top:Int} {r:Zb}:sideBad top r=false ↔ r.Lo≤r.Hi∧r.Hi≤top:=by
 unfold sideBad
 simp only [Bool.or_eq_false_iff,decide_eq_false_iff_not]
 omega
end Go.AM
set_option maxRecDepth 100000
namespace Go.AM
open Go
structure InL (l:List Bx):Prop where
 len:l.length≤300000
 bin:∀ x∈l,BIn x
theorem VS.inL {l:List Bx} (h:VS l):InL l:=⟨by have:=h.len; omega,fun x hx=>(h.ok x hx).bin⟩
theorem InL.one {b:Bx} (h:BIn b):InL [b]:=⟨by simp,fun x hx=>by rw [List.mem_singleton] at hx; rw [hx]; exact h⟩
def kp (e:Bool) (r:List Bx × Int):List Bx × Bool:=if e=true∨r.2 ≠ 0 then ([],true) else (r.1,false)
def le (e:Bool):Zl:=⟨if e=true then 3 else 0⟩
noncomputable def uU (e:Bool) (a b:List Bx):=kp e (cmb oO a b)
noncomputable def uI (e:Bool) (a b:List Bx):=kp e (cmb oA a b)
noncomputable def uS (e:Bool) (a b:List Bx):=kp e (cmb oW a b)
theorem kp_vs {e:Bool} {r:List Bx × Int} (h:SetOr r):VS (kp e r).1∧((kp e r).2=true→(kp e r).1=[]):=by
 unfold kp
 split
 ·exact⟨VS.nil,fun _=>rfl⟩
 ·exact⟨h.vs,fun h=>by cases h⟩
theorem Zqa {e:Bool} {r:List Bx × Int} (h:SetOr r):Zcg (le e) r.1 r.2=some ((kp e r).1,le (kp e r).2):=by
 unfold Zcg kp le
 cases e with
 | true=>simp
 | false=>
  by_cases h0:r.2=0
  ·simp [h0]
  ·rw [h.three h0]; simp
theorem lU_eq {e:Bool} {a b:List Bx} (ha:InL a) (hb:InL b):Zb6 (le e) a b=some ((uU e a b).1,le (uU e a b).2):=by
 unfold Zb6 uU
 rw [Zzu ha.len hb.len ha.bin hb.bin]
 simp only [Option.bind_some]
 rw [Zqa (cmb_ok _ _ _).1]; rfl
theorem lI_eq {e:Bool} {a b:List Bx} (ha:InL a) (hb:InL b):Za3 (le e) a b=some ((uI e a b).1,le (uI e a b).2):=by
 unfold Za3 uI
 rw [Zok ha.len hb.len ha.bin hb.bin]
 simp only [Option.bind_some]
 rw [Zqa (cmb_ok _ _ _).1]; rfl
theorem lS_eq {e:Bool} {a b:List Bx} (ha:InL a) (hb:InL b):Zc1 (le e) a b=some ((uS e a b).1,le (uS e a b).2):=by
 unfold Zc1 uS
 rw [Zwz ha.len hb.len ha.bin hb.bin]
 simp only [Option.bind_some]
 rw [Zqa (cmb_ok _ _ _).1]; rfl
theorem Zug {e:Bool} {op:Bool→Bool→Bool} {a b:List Bx} {k:Int} (h:(if (k == (0:Int))=true then
   (Zf4 a b).bind fun(r13:((List (Arr5 Zb)) × Int))=>
   some (r13.1,r13.2)
  else
   if (k == (1:Int))=true then
    (Zeo a b).bind fun(r15:((List (Arr5 Zb)) × Int))=>
    some (r15.1,r15.2)
   else
    (Zew a b).bind fun(r17:((List (Arr5 Zb)) × Int))=>
    some (r17.1,r17.2))=some (cmb op a b)):Z2 ⟨e⟩ k a b=some ((kp e (cmb op a b)).1,⟨(kp e (cmb op a b)).2⟩):=by
 unfold Z2
 cases e with
 | true=>simp [kp]
 | false=>
  rw [if_neg (by simp),h]
  simp only [Option.bind_some]
  have ho:=(cmb_ok op a b).1
  by_cases h0:(cmb op a b).2=0
  ·simp [kp,h0]
  ·rw [ho.three h0]; simp [kp]
theorem fU_eq {e:Bool} {a b:List Bx} (ha:InL a) (hb:InL b):Z2 ⟨e⟩ 0 a b=some ((uU e a b).1,⟨(uU e a b).2⟩):=
 Zug (by rw [Zzv ha.len hb.len ha.bin hb.bin]; rfl)
theorem fI_eq {e:Bool} {a b:List Bx} (ha:InL a) (hb:InL b):Z2 ⟨e⟩ 1 a b=some ((uI e a b).1,⟨(uI e a b).2⟩):=
 Zug (by rw [Zuf ha.len hb.len ha.bin hb.bin]; rfl)
theorem fS_eq {e:Bool} {a b:List Bx} (ha:InL a) (hb:InL b):Z2 ⟨e⟩ 2 a b=some ((uS e a b).1,⟨(uS e a b).2⟩):=
 Zug (by rw [Zvp ha.len hb.len ha.bin hb.bin]; rfl)
theorem uU_vs (e:Bool) (a b:List Bx):VS (uU e a b).1∧((uU e a b).2=true→(uU e a b).1=[]):=kp_vs (cmb_ok _ _ _).1
theorem uI_vs (e:Bool) (a b:List Bx):VS (uI e a b).1∧((uI e a b).2=true→(uI e a b).1=[]):=kp_vs (cmb_ok _ _ _).1
theorem uS_vs (e:Bool) (a b:List Bx):VS (uS e a b).1∧((uS e a b).2=true→(uS e a b).1=[]):=kp_vs (cmb_ok _ _ _).1
theorem uU_nil {e:Bool} {a:List Bx} (ha:VS a) (he:e=true→a=[]):uU e a []=(a,e):=by
 unfold uU
 rw [Zw0,Znt ha]
 unfold kp
 cases e with
 | true=>rw [if_pos (Or.inl rfl),he rfl]
 | false=>rw [if_neg (by simp)]
theorem Zuh {s:List Bx} (hs:InL s):Zc7 Zce s=some ((kp false (st s)).1,le (kp false (st s)).2):=by
 unfold Zc7
 rw [pVal hs.len hs.bin]
 simp only [Option.bind_some]
 by_cases h:vSb s=true
 ·rw [if_pos h,Znt (Zns.1 h)]; rfl
 ·rw [if_neg h,Zwx (by have:=hs.len; omega) hs.bin]
  have e:st s=mk s:=by unfold st; rw [if_neg h]
  have ho:SetOr (mk s):=e ▸ (st_ok s).1
  simp only [Option.bind_some]
  rw [show Zce=le false from rfl,Zqa ho,e]
  rfl
theorem Zw1 {s:List Bx} (hs:InL s):Z2 ⟨false⟩ 0 s []=some ((kp false (st s)).1,⟨(kp false (st s)).2⟩):=by
 rw [fU_eq hs VS.nil.inL]
 unfold uU
 rw [Zw0]
def badB:Bx:=⟨⟨1,0⟩,Zn,Zn,Zn,Zn⟩
def frm (m:Zk):Bx:=if vM m=true then m.From else badB
theorem vB_bad:vB badB=false:=by decide
theorem Zyc {m:Zk} (h:vM m=true):vB m.From=true∧vB m.To=true:=by
 unfold vM at h
 simp only [Bool.and_eq_true] at h
 exact h.1
theorem frm_v (m:Zk):vB (frm m)=vM m:=by
 unfold frm
 by_cases h:vM m=true
 ·rw [if_pos h,h,(Zyc h).1]
 ·rw [if_neg h,vB_bad]; simpa using h
theorem Zyd {l:List Zk} (hl:l.length≤100000):Zgo l=some (l.map frm):=by
 unfold Zgo
 have:=Zch (L:=Zed l) l (fun s _ x=>s++[frm x]) id (fun i s=>s.length=i) (by omega) (fun n s i hi hs=>by
  rw [Zed]
  simp only [show ((i:Int)<(l.length:Int)) from by omega,decide_true,if_true,Z1 hi,Option.bind_some,Zj5,wsucc (by omega:i<1000000000001),List.length_singleton]
  by_cases h:vM l[i]=true
  ·have e:frm l[i]=(l[i]).From:=by unfold frm; rw [if_pos h]
   rw [h,e]
   simp only [Bool.not_true,Bool.false_eq_true,if_false,Option.bind_some]
   rw [if_pos (show s.length + 1≤lim by unfold lim; omega)]
   exact⟨rfl,by simp [hs]⟩
  ·have e:frm l[i]=badB:=by unfold frm; rw [if_neg h]
   rw [Bool.not_eq_true] at h
   rw [h,e]
   simp only [Bool.not_false,if_true,Option.bind_some]
   rw [if_pos (show s.length + 1≤lim by unfold lim; omega)]
   exact⟨rfl,by simp [hs]⟩) (fun n s hs=>by rw [Zed]; simp) [] rfl
 rw [this.1,Zii]
 rfl
abbrev PSt:=Bool × List (List Bx) × List Bx
noncomputable def pstepB (s:PSt) (b:Bx):PSt:=if vB b=true then ((uS (uI s.1 s.2.2 [b]).2 s.2.2 [b]).2,s.2.1++[(uI s.1 s.2.2 [b]).1],(uS (uI s.1 s.2.2 [b]).2 s.2.2 [b]).1) else (s.1,s.2.1++[[]],s.2.2)
theorem Zly {α σ:Type} (f:σ→α→σ):∀(l:List α) (s:σ) (i:Nat),foldI (fun s _ x=>f s x) s i l=l.foldl f s
 | [],_,_=>rfl
 | x :: l,s,i=>by simp only [foldI,List.foldl_cons]; exact Zly f l _ _
noncomputable def partsR:Bool→List Bx→List Bx→List (List Bx) × List Bx × Bool
 | e,s,[]=>([],s,e)
 | e,s,b :: l=>if vB b=true then ((uI e s [b]).1 :: (partsR (uS (uI e s [b]).2 s [b]).2 (uS (uI e s [b]).2 s [b]).1 l).1,(partsR (uS (uI e s [b]).2 s [b]).2 (uS (uI e s [b]).2 s [b]).1 l).2) else ([] :: (partsR e s l).1,(partsR e s l).2)
theorem Zld:∀(l:List Bx) (e:Bool) (out:List (List Bx)) (s:List Bx),l.foldl pstepB (e,out,s)=((partsR e s l).2.2,out++(partsR e s l).1,(partsR e s l).2.1)
 | [],e,out,s=>by simp [partsR]
 | b :: l,e,out,s=>by
  rw [List.foldl_cons]
  by_cases h:vB b=true
  ·rw [show pstepB (e,out,s) b=((uS (uI e s [b]).2 s [b]).2,out++[(uI e s [b]).1],(uS (uI e s [b]).2 s [b]).1) by unfold pstepB; rw [if_pos h],Zld l]
   simp only [partsR,if_pos h,List.append_assoc,List.singleton_append]
  ·rw [show pstepB (e,out,s) b=(e,out++[[]],s) by unfold pstepB; rw [if_neg h],Zld l]
   simp only [partsR,if_neg h,List.append_assoc,List.singleton_append]
theorem Zvb {s:PSt} {b:Bx} (h:VS s.2.2):VS (pstepB s b).2.2∧(pstepB s b).2.1.length=s.2.1.length + 1:=by
 unfold pstepB
 split
 ·exact⟨(uS_vs _ _ _).1,by simp⟩
 ·exact⟨h,by simp⟩
theorem Zw2 {ms:List Bx} (hm:ms.length≤100000) (hin:∀ x∈ms,BIn x) {e:Bool} {s:List Bx} (hs:VS s):Zdm (le e) ms s=some ((partsR e s ms).1,(partsR e s ms).2.1,le (partsR e s ms).2.2):=by
 unfold Zdm
 have:=Zch (L:=fun n (s:PSt) i=>Za8 ms n (le s.1) s.2.1 s.2.2 i) ms (fun s _ x=>pstepB s x) (fun s=>(le s.1,s.2.1,s.2.2)) (fun i s=>s.2.1.length=i∧VS s.2.2) (by omega) (fun n s i hi hs=>by
  show Za8 ms (n + 1) (le s.1) s.2.1 s.2.2 (i:Int)=_∧_
  have hb:=hin _ (List.getElem_mem hi)
  have hp:=Zvb (b:=ms[i]) hs.2
  refine⟨?_,by rw [hp.2,hs.1],hp.1⟩
  rw [Za8]
  simp only [show ((i:Int)<(ms.length:Int)) from by omega,decide_true,if_true,Z1 hi,Option.bind_some,Zn4,wsucc (by omega:i<1000000000001),List.length_singleton]
  unfold pstepB
  by_cases h:vB ms[i]=true
  ·rw [if_pos h,h]
   simp only [Bool.not_true,Bool.false_eq_true,if_false]
   rw [lI_eq hs.2.inL (InL.one hb)]
   simp only [Option.bind_some]
   rw [if_pos (show s.2.1.length + 1≤lim by rw [hs.1]; unfold lim; omega),lS_eq hs.2.inL (InL.one hb)]
   rfl
  ·rw [if_neg h]
   rw [Bool.not_eq_true] at h
   rw [h]
   simp only [Bool.not_false,if_true]
   rw [if_pos (show s.2.1.length + 1≤lim by rw [hs.1]; unfold lim; omega)]
   rfl) (fun n s hs=>by
  show Za8 ms (n + 1) (le s.1) s.2.1 s.2.2 (ms.length:Int)=_
  rw [Za8]; simp) (e,[],s) ⟨rfl,hs⟩
 have h1:=this.1
 simp only at h1
 rw [h1,Zly pstepB,Zld]
 rfl
theorem Zvc {l:List Zk} (hl:l.length≤100000) (hin:∀ m∈l,MIn m) {s:List Bx} (hs:InL s) :
  Zf5 ⟨false⟩ l s=some ((partsR (kp false (st s)).2 (kp false (st s)).1 (l.map frm)).1,(partsR (kp false (st s)).2 (kp false (st s)).1 (l.map frm)).2.1,⟨(partsR (kp false (st s)).2 (kp false (st s)).1 (l.map frm)).2.2⟩):=by
 unfold Zf5
 rw [Zw1 hs]
 simp only [Option.bind_some]
 have hv:VS (kp false (st s)).1:=(kp_vs (st_ok s).1).1
 have:=Zch (L:=fun n (s:PSt) i=>Zct l n ⟨s.1⟩ s.2.1 s.2.2 i) l (fun s _ x=>pstepB s (frm x)) (fun s=>(⟨s.1⟩,s.2.1,s.2.2)) (fun i s=>s.2.1.length=i∧VS s.2.2) (by omega) (fun n s i hi hs=>by
  show Zct l (n + 1) ⟨s.1⟩ s.2.1 s.2.2 (i:Int)=_∧_
  have hb:=(hin _ (List.getElem_mem hi)).f
  have hp:=Zvb (b:=frm l[i]) hs.2
  refine⟨?_,by rw [hp.2,hs.1],hp.1⟩
  rw [Zct]
  simp only [show ((i:Int)<(l.length:Int)) from by omega,decide_true,if_true,Z1 hi,Option.bind_some,Zoj,wsucc (by omega:i<1000000000001),List.length_singleton]
  unfold pstepB
  by_cases h:vM l[i]=true
  ·have e:frm l[i]=(l[i]).From:=by unfold frm; rw [if_pos h]
   rw [if_pos (show vB (frm l[i])=true by rw [frm_v]; exact h),h,e]
   simp only [Bool.not_true,Bool.false_eq_true,if_false]
   rw [fI_eq hs.2.inL (InL.one hb)]
   simp only [Option.bind_some]
   rw [if_pos (show s.2.1.length + 1≤lim by rw [hs.1]; unfold lim; omega),fS_eq hs.2.inL (InL.one hb)]
   rfl
  ·rw [if_neg (show ¬ vB (frm l[i])=true by rw [frm_v]; exact h)]
   rw [Bool.not_eq_true] at h
   rw [h]
   simp only [Bool.not_false,if_true]
   rw [if_pos (show s.2.1.length + 1≤lim by rw [hs.1]; unfold lim; omega)]
   rfl) (fun n s hs=>by
  show Zct l (n + 1) ⟨s.1⟩ s.2.1 s.2.2 (l.length:Int)=_
  rw [Zct]; simp) ((kp false (st s)).2,[],(kp false (st s)).1) ⟨rfl,hv⟩
 have h1:=this.1
 simp only at h1
 have e:∀(l:List Zk) (s:PSt),l.foldl (fun s x=>pstepB s (frm x)) s=(l.map frm).foldl pstepB s:=fun l s=>by rw [List.foldl_map]
 rw [h1,Zly (fun s x=>pstepB s (frm x)),e,Zld]
 rfl
theorem Zk2:∀(l:List Bx) (e:Bool) (s:List Bx),(partsR e s l).1.length=l.length
 | [],_,_=>rfl
 | b :: l,e,s=>by
  simp only [partsR]
  split
  ·simp only [List.length_cons]; rw [Zk2 l]
  ·simp only [List.length_cons]; rw [Zk2 l]
theorem Zlz:∀(l:List Bx) (e:Bool) (s:List Bx),VS s→(∀ x∈(partsR e s l).1,VS x)∧VS (partsR e s l).2.1
 | [],_,_,h=>⟨fun _ h=>(by cases h),h⟩
 | b :: l,e,s,h=>by
  simp only [partsR]
  split
  ·have ih:=Zlz l (uS (uI e s [b]).2 s [b]).2 (uS (uI e s [b]).2 s [b]).1 (uS_vs _ _ _).1
   exact⟨fun x hx=>(List.mem_cons.1 hx).elim (fun h=>h ▸ (uI_vs _ _ _).1) (ih.1 x),ih.2⟩
  ·have ih:=Zlz l e s h
   exact⟨fun x hx=>(List.mem_cons.1 hx).elim (fun h=>h ▸ VS.nil) (ih.1 x),ih.2⟩
theorem Zmt:∀(l:List Bx) (e:Bool) (s:List Bx) (i:Nat) (h:i<l.length),vB l[i]=false→(partsR e s l).1[i]? = some []
 | [],_,_,_,h,_=>by simp at h
 | b :: l,e,s,0,_,hv=>by
  simp only [List.getElem_cons_zero] at hv
  simp only [partsR,hv,Bool.false_eq_true,if_false,List.getElem?_cons_zero]
 | b :: l,e,s,i + 1,h,hv=>by
  simp only [List.getElem_cons_succ] at hv
  simp only [partsR]
  split
  ·simp only [List.getElem?_cons_succ]; exact Zmt l _ _ i (by simpa using h) hv
  ·simp only [List.getElem?_cons_succ]; exact Zmt l _ _ i (by simpa using h) hv
def shM (m:Zk) (s:List Bx):List Bx:=s.map fun b=>shB b m.From m.To
theorem shr_in (a f t:Zb):RIn (shr a f t):=by
 have h1:=Zgk (IntKind.wrap .u32 (a.Lo - f.Lo) + t.Lo)
 have h2:=Zgk (IntKind.wrap .u32 (a.Hi - f.Lo) + t.Lo)
 exact⟨h1.1,h1.2,h2.1,h2.2⟩
theorem shB_in (a f t:Bx):BIn (shB a f t):=⟨shr_in _ _ _,shr_in _ _ _,shr_in _ _ _,shr_in _ _ _,shr_in _ _ _⟩
theorem shM_in {m:Zk} {s:List Bx} (h:s.length≤300000):InL (shM m s):=⟨by unfold shM; rw [List.length_map]; exact h,fun x hx=>by
 obtain⟨y,_,rfl⟩:=List.mem_map.1 hx
 exact shB_in _ _ _⟩
theorem Zm7 {s:List Bx} (h:s.length≤300000) (f t:Bx):Zeh s f t=some (s.map fun b=>shB b f t):=by
 unfold Zeh
 have:=Zch (L:=Zdi s f t) s (fun acc _ x=>acc++[shB x f t]) id (fun i acc=>acc.length=i) (by omega) (fun n acc i hi hs=>by
  rw [Zdi]
  simp only [show ((i:Int)<(s.length:Int)) from by omega,decide_true,if_true,Z1 hi,Option.bind_some,Z0j,wsucc (by omega:i<1000000000001),List.length_singleton]
  rw [if_pos (show acc.length + 1≤lim by unfold lim; omega)]
  exact⟨rfl,by simp [hs]⟩) (fun n acc hs=>by rw [Zdi]; simp) [] rfl
 rw [this.1,Zii]
 rfl
theorem Zxo {m:Zk} {s v:List Bx} {i:Nat} (hi:i<v.length) (hs:i<s.length) (he:v[i]=s[i]):Zb1 m s (i:Int) fuel v 0=some (v.set i (shB s[i] m.From m.To)):=by
 obtain⟨n,hn⟩:∃ n,fuel=n + 6:=⟨fuel - 6,by unfold fuel; omega⟩
 rw [hn]
 have nx:∀(k:Nat) (q:Nat) (x:Bx),k<5→Zb1 m s (i:Int) (q + 1) (v.set i x) (k:Int)=Zb1 m s (i:Int) q (v.set i (x.set (k:Int) (shr ((s[i]).get (k:Int)) (m.From.get (k:Int)) (m.To.get (k:Int))))) ((k + 1:Nat):Int):=by
  intro k q x hk
  have hl:i<(v.set i x).length:=by rw [List.length_set]; exact hi
  rw [Zb1,if_pos (by simp; omega),if_pos ⟨by omega,by omega⟩,if_pos ⟨by omega,by omega⟩,Z1 hs]
  simp only [Option.bind_some,Int.toNat_natCast]
  rw [if_pos ⟨by omega,by omega⟩,Z1 hl,List.getElem_set_self]
  simp only [Option.bind_some]
  rw [if_pos ⟨by omega,by omega⟩,if_pos ⟨by omega,by omega⟩,if_pos ⟨by omega,by omega⟩]
  rw [List.set_set,Z1 (by rw [List.length_set]; exact hi),List.getElem_set_self]
  simp only [Option.bind_some]
  rw [if_pos ⟨by omega,by omega⟩,List.set_set,wsucc (by omega)]
  congr 2
  have hg:∀(x:Bx) (r:Zb),(x.set (k:Int) r).get (k:Int)=r:=fun x r=>by rcases fiveN hk with rfl | rfl | rfl | rfl | rfl <;> rfl
  rw [hg,set_set]
  unfold shr
  rw [Int.add_comm (m.To.get (k:Int)).Lo,Int.add_comm (m.To.get (k:Int)).Lo]
 have first:v=v.set i s[i]:=by rw [← he]; exact(List.set_getElem_self hi).symm
 conv=>lhs; rw [first]
 rw [show (0:Int)=((0:Nat):Int) from rfl]
 rw [nx 0 _ _ (by omega),nx 1 _ _ (by omega),nx 2 _ _ (by omega),nx 3 _ _ (by omega),nx 4 _ _ (by omega),Zb1,if_neg (by decide)]
 rfl
theorem Zm8 {m:Zk} {s:List Bx} (h:s.length≤300000):Zef m s=some (shM m s):=by
 unfold Zef
 rw [if_pos (by unfold lim; omega)]
 have:=Zch (L:=Zdh m s) s (stepN (fun b=>shB b m.From m.To)) id (fun i v=>v.length=s.length∧v.drop i=s.drop i) (by omega) (fun n v i hi hs=>by
  have hv:i<v.length:=by omega
  have he:v[i]=s[i]:=by
   have h2:(v.drop i)[0]? = (s.drop i)[0]?:=by rw [hs.2]
   rw [List.getElem?_drop,List.getElem?_drop,Nat.add_zero,List.getElem?_eq_getElem hv,List.getElem?_eq_getElem hi] at h2
   exact Option.some.inj h2
  rw [Zdh]
  simp only [show ((i:Int)<(s.length:Int)) from by omega,decide_true,if_true,wsucc (by omega:i<1000000000001)]
  rw [Zxo hv hi he]
  simp only [Option.bind_some]
  have h3:stepN (fun b=>shB b m.From m.To) v i s[i]=v.set i (shB s[i] m.From m.To):=by unfold stepN; rw [List.getElem?_eq_getElem hv,he]
  rw [h3]
  exact⟨rfl,by rw [List.length_set]; exact hs.1,by rw [List.drop_set_of_lt (by omega),← List.drop_drop,← List.drop_drop,hs.2]⟩) (fun n v hs=>by rw [Zdh]; simp) s ⟨rfl,rfl⟩
 have h2:=Zn7 (fun b=>shB b m.From m.To) s []
 rw [List.nil_append,List.nil_append,List.length_nil] at h2
 rw [this.1,h2]
 rfl
abbrev ISt:=Bool × List Bx
noncomputable def istep (s:ISt) (m:Zk) (p:List Bx):ISt:=if vM m=true then ((uU s.1 s.2 (shM m p)).2,(uU s.1 s.2 (shM m p)).1) else s
noncomputable def imgR:ISt→List Zk→List (List Bx)→ISt
 | s,m :: l,p :: ps=>imgR (istep s m p) l ps
 | s,_,_=>s
theorem Zp0 (f:ISt→Zk→List Bx→ISt):∀(l:List Zk) (ps:List (List Bx)) (s:ISt) (i:Nat),l.length=ps.length→(∀ s l ps,imgR s l ps=imgR s l ps)→foldI (fun s _ (x:Zk × List Bx)=>istep s x.1 x.2) s i (l.zip ps)=imgR s l ps
 | [],[],_,_,_,_=>rfl
 | m :: l,p :: ps,s,i,h,hh=>by
  simp only [List.zip_cons_cons,foldI,imgR]
  exact Zp0 f l ps _ _ (by simpa using h) hh
 | [],_ :: _,_,_,h,_=>by simp at h
 | _ :: _,[],_,_,h,_=>by simp at h
def resA (s:ISt):List Bx × Int:=if s.1=true then ([],3) else (s.2,0)
theorem Zvd {e:Bool} {s:List Bx} (h:s.length≤300000):Zdd (le e) s=some (resA (e,s)):=by
 unfold Zdd resA le
 cases e with
 | true=>rfl
 | false=>
  simp only [Bool.false_eq_true,if_false,bne_self_eq_false]
  rw [if_pos (by unfold lim; omega)]
theorem Ztg {e:Bool} {s:List Bx}:Zdy ⟨e⟩ s=some (resA (e,s)):=by
 unfold Zdy resA
 cases e <;> rfl
structure ISok (s:ISt):Prop where
 vs:VS s.2
 e:s.1=true→s.2=[]
theorem Zry {s:ISt} (h:ISok s) (m:Zk) (p:List Bx):ISok (istep s m p):=by
 unfold istep
 split
 ·exact⟨(uU_vs _ _ _).1,(uU_vs _ _ _).2⟩
 ·exact h
noncomputable def imageA (l:List Zk) (s:List Bx):List Bx × Int:=
 let r:=partsR (kp false (st s)).2 (kp false (st s)).1 (l.map frm)
 let o:=imgR (r.2.2,[]) l r.1
 resA ((uU o.1 o.2 r.2.1).2,(uU o.1 o.2 r.2.1).1)
theorem Zui:∀(l:List Zk) (ps:List (List Bx)) (s:ISt),ISok s→ISok (imgR s l ps)
 | [],_,_,h=>by unfold imgR; exact h
 | _ :: _,[],_,h=>by unfold imgR; exact h
 | m :: l,p :: ps,s,h=>by unfold imgR; exact Zui l ps _ (Zry h m p)
theorem Zw3 {l:List Zk} (hl:l.length≤100000) (hin:∀ m∈l,MIn m) {s:List Bx} (hs:InL s):Zf0 l s=some (imageA l s):=by
 unfold Zf0 imageA
 rw [Zyd hl,Zuh hs]
 simp only [Option.bind_some]
 have hv:VS (kp false (st s)).1:=(kp_vs (st_ok s).1).1
 have hms:∀ x∈l.map frm,BIn x:=fun x hx=>by
  obtain⟨m,hm,rfl⟩:=List.mem_map.1 hx
  unfold frm
  split
  ·exact(hin m hm).f
  ·exact⟨⟨by decide,by decide,by decide,by decide⟩,⟨by decide,by decide,by decide,by decide⟩,⟨by decide,by decide,by decide,by decide⟩,⟨by decide,by decide,by decide,by decide⟩,⟨by decide,by decide,by decide,by decide⟩⟩
 rw [Zw2 (by rw [List.length_map]; exact hl) hms hv]
 simp only [Option.bind_some]
 have hpv:=Zlz (l.map frm) (kp false (st s)).2 (kp false (st s)).1 hv
 have hpl:(partsR (kp false (st s)).2 (kp false (st s)).1 (l.map frm)).1.length=l.length:=by rw [Zk2,List.length_map]
 generalize hr:partsR (kp false (st s)).2 (kp false (st s)).1 (l.map frm)=r at hpv hpl
 have hzl:(l.zip r.1).length=l.length:=by rw [List.length_zip,hpl,Nat.min_self]
 have:=Zch (L:=fun n (s:ISt) i=>Zcs l (r.1,r.2.1,le r.2.2) n (le s.1) s.2 i) (l.zip r.1) (fun s _ x=>istep s x.1 x.2) (fun s=>(le s.1,s.2)) (fun _ s=>ISok s) (by omega) (fun n s i hi hs=>by
  show Zcs l (r.1,r.2.1,le r.2.2) (n + 1) (le s.1) s.2 (i:Int)=_∧_
  have hil:i<l.length:=by omega
  have hir:i<r.1.length:=by omega
  have hz:(l.zip r.1)[i]=(l[i],r.1[i]):=List.getElem_zip
  rw [hz]
  refine⟨?_,Zry hs _ _⟩
  have hpx:=hpv.1 _ (List.getElem_mem hir)
  rw [Zcs]
  simp only [show ((i:Int)<(r.1.length:Int)) from by omega,decide_true,if_true,Z1 hil,Z1 hir,Option.bind_some,Zj5,wsucc (by omega:i<1000000000001)]
  unfold istep
  by_cases h:vM l[i]=true
  ·rw [if_pos h,if_pos h,Zm8 hpx.inL.len]
   simp only [Option.bind_some]
   rw [lU_eq hs.vs.inL (shM_in hpx.inL.len)]
   rfl
  ·rw [if_neg h,if_neg h]
   rfl) (fun n s hs=>by
  show Zcs l (r.1,r.2.1,le r.2.2) (n + 1) (le s.1) s.2 ((l.zip r.1).length:Int)=_
  rw [Zcs,if_neg (by rw [hzl]; simp; omega)]) (r.2.2,[]) ⟨VS.nil,fun _=>rfl⟩
 have h1:=this.1
 simp only at h1
 rw [h1,Zp0 istep l r.1 _ _ hpl.symm (fun _ _ _=>rfl)]
 have hok:=Zui l r.1 (r.2.2,[]) ⟨VS.nil,fun _=>rfl⟩
 simp only [Option.bind_some]
 rw [lU_eq hok.vs.inL hpv.2.inL]
 simp only [Option.bind_some]
 rw [Zvd (uU_vs _ _ _).1.inL.len]
 rfl
theorem Zve {l:List Zk} (hl:l.length≤100000) (hin:∀ m∈l,MIn m) {s:List Bx} (hs:InL s):Zf6 l s=some (imageA l s):=by
 unfold Zf6 imageA
 rw [Zvc hl hin hs]
 simp only [Option.bind_some]
 have hv:VS (kp false (st s)).1:=(kp_vs (st_ok s).1).1
 have hpv:=Zlz (l.map frm) (kp false (st s)).2 (kp false (st s)).1 hv
 have hpl:(partsR (kp false (st s)).2 (kp false (st s)).1 (l.map frm)).1.length=l.length:=by rw [Zk2,List.length_map]
 have hbad:=Zmt (l.map frm) (kp false (st s)).2 (kp false (st s)).1
 generalize hr:partsR (kp false (st s)).2 (kp false (st s)).1 (l.map frm)=r at hpv hpl hbad
 have hzl:(l.zip r.1).length=l.length:=by rw [List.length_zip,hpl,Nat.min_self]
 have:=Zch (L:=fun n (s:ISt) i=>Zcu l (r.1,r.2.1,⟨r.2.2⟩) n ⟨s.1⟩ s.2 i) (l.zip r.1) (fun s _ x=>istep s x.1 x.2) (fun s=>(⟨s.1⟩,s.2)) (fun _ s=>ISok s) (by omega) (fun n s i hi hs=>by
  show Zcu l (r.1,r.2.1,⟨r.2.2⟩) (n + 1) ⟨s.1⟩ s.2 (i:Int)=_∧_
  have hil:i<l.length:=by omega
  have hir:i<r.1.length:=by omega
  have hz:(l.zip r.1)[i]=(l[i],r.1[i]):=List.getElem_zip
  rw [hz]
  refine⟨?_,Zry hs _ _⟩
  have hpx:=hpv.1 _ (List.getElem_mem hir)
  rw [Zcu]
  simp only [show ((i:Int)<(l.length:Int)) from by omega,decide_true,if_true,Z1 hil,Z1 hir,Option.bind_some,wsucc (by omega:i<1000000000001)]
  rw [Zm7 hpx.inL.len]
  simp only [Option.bind_some]
  unfold istep
  by_cases h:vM l[i]=true
  ·rw [if_pos h]
   rw [show ((r.1[i]).map fun b=>shB b (l[i]).From (l[i]).To)=shM l[i] r.1[i] from rfl,fU_eq hs.vs.inL (shM_in hpx.inL.len)]
   rfl
  ·rw [if_neg h]
   have hb:=hbad i (by rw [List.length_map]; exact hil) (by rw [List.getElem_map,frm_v]; simpa using h)
   rw [List.getElem?_eq_getElem hir,Option.some.injEq] at hb
   rw [hb,List.map_nil,fU_eq hs.vs.inL VS.nil.inL,uU_nil hs.vs hs.e]
   rfl) (fun n s hs=>by
  show Zcu l (r.1,r.2.1,⟨r.2.2⟩) (n + 1) ⟨s.1⟩ s.2 ((l.zip r.1).length:Int)=_
  rw [Zcu,if_neg (by rw [hzl]; simp)]) (r.2.2,[]) ⟨VS.nil,fun _=>rfl⟩
 have h1:=this.1
 simp only at h1
 rw [h1,Zp0 istep l r.1 _ _ hpl.symm (fun _ _ _=>rfl)]
 have hok:=Zui l r.1 (r.2.2,[]) ⟨VS.nil,fun _=>rfl⟩
 simp only [Option.bind_some]
 rw [fU_eq hok.vs.inL hpv.2.inL]
 simp only [Option.bind_some]
 rw [Ztg]
 rfl
end Go.AM
set_option maxRecDepth 100000
namespace Go.AM
open Go
def sh1 (d:Int) (r:Zb):Zb:=⟨r.Lo + d,r.Hi + d⟩
def shL:List Int→RL→RL
 | d :: ds,r :: b=>sh1 d r :: shL ds b
 | _,_=>[]
def psub:List Int→List Int→List Int
 | v :: p,d :: ds=>(v - d) :: psub p ds
 | _,_=>[]
def subB:RL→RL→Prop
 | [],[]=>True
 | r :: b,f :: g=>f.Lo≤r.Lo∧r.Hi≤f.Hi∧subB b g
 | _,_=>False
def mvOK:List Int→RL→List Int→Prop
 | [],[],[]=>True
 | t :: ts,f :: g,d :: ds=>0≤f.Lo + d∧f.Hi + d≤t∧mvOK ts g ds
 | _,_,_=>False
theorem Zye:∀(ds:List Int) {b b':RL},b.length=ds.length→b'.length=ds.length→shL ds b=shL ds b'→b=b'
 | [],[],[],_,_,_=>rfl
 | d :: ds,r :: b,r' :: b',h,h',e=>by
  simp only [shL,List.cons.injEq,sh1,Zb.mk.injEq] at e
  simp only [List.length_cons] at h h'
  rw [Zye ds (by omega) (by omega) e.2]
  congr 1
  obtain⟨a1,a2⟩:=r
  obtain⟨c1,c2⟩:=r'
  simp only at e
  rw [Zb.mk.injEq]
  omega
 | [],_ :: _,_,h,_,_=>by simp at h
 | [],[],_ :: _,_,h,_=>by simp at h
 | _ :: _,[],_,h,_,_=>by simp at h
 | _ :: _,_ :: _,[],_,h,_=>by simp at h
theorem Zxp {ds:List Int} {l l':List RL} (h:∀ b∈l,b.length=ds.length) (h':∀ b∈l',b.length=ds.length) (e:l.map (shL ds)=l'.map (shL ds)):l=l':=by
 induction l generalizing l' with
 | nil=>cases l' with
  | nil=>rfl
  | cons _ _=>simp at e
 | cons b l ih=>cases l' with
  | nil=>simp at e
  | cons b' l'=>
   simp only [List.map_cons,List.cons.injEq] at e
   rw [Zye ds (h b (List.mem_cons_self ..)) (h' b' (List.mem_cons_self ..)) e.1,ih (fun x hx=>h x (List.mem_cons_of_mem _ hx)) (fun x hx=>h' x (List.mem_cons_of_mem _ hx)) e.2]
theorem Zw4:∀ {ts:List Int} {f:RL} {ds:List Int},mvOK ts f ds→f.length=ts.length∧ds.length=ts.length
 | [],[],[],_=>⟨rfl,rfl⟩
 | t :: ts,f :: g,d :: ds,h=>by have:=Zw4 h.2.2; simp only [List.length_cons]; omega
 | [],_ :: _,_,h=>by cases h
 | [],[],_ :: _,h=>by cases h
 | _ :: _,[],_,h=>by cases h
 | _ :: _,_ :: _,[],h=>by cases h
theorem Zw5:∀(ts:List Int) {f:RL} {ds:List Int} {l:List RL},mvOK ts f ds→CF ts l→(∀ b∈l,subB b f)→CF ts (l.map (shL ds))
 | [],f,ds,l,hm,hl,_=>by
  rcases hl with rfl | rfl
  ·exact .inl rfl
  ·cases ds with
   | nil=>exact .inr rfl
   | cons _ _=>cases f <;> cases hm
 | t :: ts,f,ds,l,hm,hl,hs=>by
  obtain⟨c,rfl,ho,hc⟩:=hl
  cases f with
  | nil=>cases hm
  | cons f g=>cases ds with
   | nil=>cases hm
   | cons d ds=>
    obtain⟨m1,m2,m3⟩:=hm
    have hlen:=Zw4 m3
    have hx:∀ x∈c,f.Lo≤x.1.Lo∧x.1.Hi≤f.Hi∧∀ b∈x.2,subB b g:=by
     intro x hx
     have hxo:=ho.ok x hx
     have hin:∀ b∈x.2,subB (x.1 :: b) (f :: g):=fun b hb=>hs _ (List.mem_flatMap.2 ⟨x,hx,List.mem_map.2 ⟨b,hb,rfl⟩⟩)
     obtain⟨b0,hb0⟩:=List.exists_mem_of_ne_nil _ hxo.2.2.2
     exact⟨(hin b0 hb0).1,(hin b0 hb0).2.1,fun b hb=>(hin b hb).2.2⟩
    refine⟨c.map fun x=>(sh1 d x.1,x.2.map (shL ds)),?_,⟨?_,fun y hy=>?_⟩,fun y hy=>?_⟩
    ·unfold flt
     rw [List.map_flatMap,List.flatMap_map]
     congr 1
     funext x
     rw [List.map_map,List.map_map]
     rfl
    ·rw [List.pairwise_map]
     refine List.Pairwise.imp_of_mem ?_ ho.pw
     intro x y hxc hyc hg
     refine⟨by have:=hg.1; show x.1.Hi + d<y.1.Lo + d; omega,fun e he=>?_⟩
     have hl1:∀ {z:Cell},z∈c→∀ b∈z.2,b.length=ds.length:=fun hz b hb=>by rw [CF_len ts (hc _ hz) b hb]; omega
     refine hg.2 (by have e:x.1.Hi + d + 1=y.1.Lo + d:=e; omega) (Zxp (hl1 hxc) (hl1 hyc) he)
    ·obtain⟨x,hxc,rfl⟩:=List.mem_map.1 hy
     have:=ho.ok x hxc
     have:=hx x hxc
     refine⟨by show 0≤x.1.Lo + d; omega,by show x.1.Lo + d≤x.1.Hi + d; omega,by show x.1.Hi + d≤t; omega,?_⟩
     simp; exact(ho.ok x hxc).2.2.2
    ·obtain⟨x,hxc,rfl⟩:=List.mem_map.1 hy
     exact Zw5 ts m3 (hc x hxc) (hx x hxc).2.2
theorem Zw6:∀(ds:List Int) (b:RL) (p:List Int),b.length=ds.length→p.length=ds.length→mB (shL ds b) p=mB b (psub p ds)
 | [],[],[],_,_=>rfl
 | d :: ds,r :: b,v :: p,h,h'=>by
  simp only [shL,mB,psub]
  rw [Zw6 ds b p (by simpa using h) (by simpa using h')]
  congr 1
  rw [Bool.eq_iff_iff,Zdz,Zdz]
  show r.Lo + d≤v∧v≤r.Hi + d ↔ _
  omega
 | [],_ :: _,_,h,_=>by simp at h
 | [],[],_ :: _,_,h=>by simp at h
 | _ :: _,[],_,h,_=>by simp at h
 | _ :: _,_ :: _,[],_,h=>by simp at h
theorem vP_len:∀ {ts p:List Int},vP ts p→p.length=ts.length
 | [],[],_=>rfl
 | t :: ts,v :: p,h=>by simp only [List.length_cons]; rw [vP_len h.2.2]
 | [],_ :: _,h=>h.elim
 | _ :: _,[],h=>h.elim
theorem corner:∀ {ts:List Int} {b:RL},vR ts b→(vP ts (b.map (·.Lo))∧mB b (b.map (·.Lo))=true)∧(vP ts (b.map (·.Hi))∧mB b (b.map (·.Hi))=true)
 | [],[],_=>⟨⟨trivial,rfl⟩,⟨trivial,rfl⟩⟩
 | t :: ts,r :: b,h=>by
  obtain⟨h0,h1,h2,h3⟩:=h
  obtain⟨⟨a1,a2⟩,⟨a3,a4⟩⟩:=corner h3
  refine⟨⟨⟨h0,by show r.Lo≤t; omega,a1⟩,?_⟩,⟨⟨by show 0≤r.Hi; omega,h2,a3⟩,?_⟩⟩
  ·simp only [List.map_cons,mB,a2,Bool.and_true]; exact Zdz.2 ⟨Int.le_refl _,h1⟩
  ·simp only [List.map_cons,mB,a4,Bool.and_true]; exact Zdz.2 ⟨h1,Int.le_refl _⟩
 | [],_ :: _,h=>h.elim
 | _ :: _,[],h=>h.elim
theorem Zyf:∀ {b f:RL},mB f (b.map (·.Lo))=true→mB f (b.map (·.Hi))=true→subB b f
 | [],[],_,_=>trivial
 | r :: b,g :: f,h,h'=>by
  simp only [List.map_cons,mB,Bool.and_eq_true,Zdz] at h h'
  exact⟨h.1.1,h'.1.2,Zyf h.2 h'.2⟩
 | [],_ :: _,h,_=>by simp [mB] at h
 | _ :: _,[],h,_=>by simp [mB] at h
def dM (m:Zk):List Int:=[m.To.x0.Lo - m.From.x0.Lo,m.To.x1.Lo - m.From.x1.Lo,m.To.x2.Lo - m.From.x2.Lo,m.To.x3.Lo - m.From.x3.Lo,m.To.x4.Lo - m.From.x4.Lo]
theorem dlen (m:Zk) {p:List Int} (h:vP tops5 p):p.length=(dM m).length:=by rw [vP_len h]; rfl
theorem Znu {m:Zk} (hm:MIn m) (h:vM m=true) {f:Nat} (hf:f<5):0≤(m.From.get (f:Int)).Lo∧(m.From.get (f:Int)).Lo≤(m.From.get (f:Int)).Hi∧(m.From.get (f:Int)).Hi≤topOf (f:Int)∧0≤(m.To.get (f:Int)).Lo∧(m.To.get (f:Int)).Hi≤topOf (f:Int)∧(m.From.get (f:Int)).Hi - (m.From.get (f:Int)).Lo=(m.To.get (f:Int)).Hi - (m.To.get (f:Int)).Lo:=by
 unfold vM at h
 simp only [Bool.and_eq_true] at h
 obtain⟨⟨v1,v2⟩,v3⟩:=h
 have h0:(0:Int)≤(f:Int):=by omega
 have h1:(f:Int)<5:=by omega
 obtain⟨a1,a2,a3⟩:=vB_get hm.f v1 h0 h1
 obtain⟨b1,b2,b3⟩:=vB_get hm.t v2 h0 h1
 obtain⟨t1,t2⟩:=Zwm h0 h1
 have hd:=Z0i v3 h0 h1
 unfold difM at hd
 rw [wu32 (x:=(m.From.get (f:Int)).Hi - (m.From.get (f:Int)).Lo) (by omega) (by omega),wu32 (x:=(m.To.get (f:Int)).Hi - (m.To.get (f:Int)).Lo) (by omega) (by omega)] at hd
 simp only [bne_eq_false_iff_eq] at hd
 exact⟨a1,a2,a3,b1,b3,hd⟩
structure MN (m:Zk):Prop where
 n0:0≤m.From.x0.Lo∧m.From.x0.Lo≤m.From.x0.Hi∧m.From.x0.Hi≤4294967295∧0≤m.To.x0.Lo∧m.To.x0.Hi≤4294967295∧m.From.x0.Hi - m.From.x0.Lo=m.To.x0.Hi - m.To.x0.Lo
 n1:0≤m.From.x1.Lo∧m.From.x1.Lo≤m.From.x1.Hi∧m.From.x1.Hi≤4294967295∧0≤m.To.x1.Lo∧m.To.x1.Hi≤4294967295∧m.From.x1.Hi - m.From.x1.Lo=m.To.x1.Hi - m.To.x1.Lo
 n2:0≤m.From.x2.Lo∧m.From.x2.Lo≤m.From.x2.Hi∧m.From.x2.Hi≤255∧0≤m.To.x2.Lo∧m.To.x2.Hi≤255∧m.From.x2.Hi - m.From.x2.Lo=m.To.x2.Hi - m.To.x2.Lo
 n3:0≤m.From.x3.Lo∧m.From.x3.Lo≤m.From.x3.Hi∧m.From.x3.Hi≤65535∧0≤m.To.x3.Lo∧m.To.x3.Hi≤65535∧m.From.x3.Hi - m.From.x3.Lo=m.To.x3.Hi - m.To.x3.Lo
 n4:0≤m.From.x4.Lo∧m.From.x4.Lo≤m.From.x4.Hi∧m.From.x4.Hi≤65535∧0≤m.To.x4.Lo∧m.To.x4.Hi≤65535∧m.From.x4.Hi - m.From.x4.Lo=m.To.x4.Hi - m.To.x4.Lo
theorem vM_MN {m:Zk} (hm:MIn m) (h:vM m=true):MN m:=
 ⟨Znu hm h (f:=0) (by omega),Znu hm h (f:=1) (by omega),Znu hm h (f:=2) (by omega),Znu hm h (f:=3) (by omega),Znu hm h (f:=4) (by omega)⟩
theorem MN.mv {m:Zk} (h:MN m):mvOK tops5 (toL m.From) (dM m):=by
 obtain⟨h0,h1,h2,h3,h4⟩:=h
 exact⟨by omega,by omega,by omega,by omega,by omega,by omega,by omega,by omega,by omega,by omega,trivial⟩
theorem Zl0 {a f t:Zb} {top:Int} (h:0≤f.Lo∧f.Lo≤f.Hi∧f.Hi≤top∧0≤t.Lo∧t.Hi≤top∧f.Hi - f.Lo=t.Hi - t.Lo) (ht:top<4294967296) (hs:f.Lo≤a.Lo∧a.Hi≤f.Hi) (ha:a.Lo≤a.Hi):shr a f t=sh1 (t.Lo - f.Lo) a:=by
 unfold shr sh1
 rw [wu32 (x:=a.Lo - f.Lo) (by omega) (by omega),wu32 (x:=a.Hi - f.Lo) (by omega) (by omega),wu32 (by omega) (by omega),wu32 (by omega) (by omega)]
 congr 1 <;> omega
theorem Z0v {m:Zk} (h:MN m) {b:Bx} (hb:BOk b) (hs:subB (toL b) (toL m.From)):toL (shB b m.From m.To)=shL (dM m) (toL b):=by
 obtain⟨h0,h1,h2,h3,h4⟩:=h
 obtain⟨s0,s0',s1,s1',s2,s2',s3,s3',s4,s4',_⟩:=hs
 simp only [shB,toL,dM,shL]
 rw [Zl0 h0 (by omega) ⟨s0,s0'⟩ hb.h0.h1,Zl0 h1 (by omega) ⟨s1,s1'⟩ hb.h1.h1,Zl0 h2 (by omega) ⟨s2,s2'⟩ hb.h2.h1,Zl0 h3 (by omega) ⟨s3,s3'⟩ hb.h3.h1,Zl0 h4 (by omega) ⟨s4,s4'⟩ hb.h4.h1]
theorem Zzw {α:Type} {f g:α→Bool} {l:List α} (h:∀ x∈l,f x=g x):l.any f=l.any g:=by
 induction l with
 | nil=>rfl
 | cons x l ih=>rw [List.any_cons,List.any_cons,h x (List.mem_cons_self ..),ih fun y hy=>h y (List.mem_cons_of_mem _ hy)]
theorem shM_ok {m:Zk} (h:MN m) {s:List Bx} (hs:VS s) (hin:∀ p,vP tops5 p→mem s p=true→mB (toL m.From) p=true) :
  VS (shM m s)∧∀ p,vP tops5 p→mem (shM m s) p=mem s (psub p (dM m)):=by
 have hsub:∀ b∈s,subB (toL b) (toL m.From):=fun b hb=>by
  have hv:=ok_vR (hs.ok b hb)
  obtain⟨⟨a1,a2⟩,⟨a3,a4⟩⟩:=corner hv
  have hm1:∀ p,mB (toL b) p=true→mem s p=true:=fun p hp=>mS_iff.2 ⟨toL b,List.mem_map_of_mem hb,hp⟩
  exact Zyf (hin _ a1 (hm1 _ a2)) (hin _ a3 (hm1 _ a4))
 have hmap:(shM m s).map toL=(s.map toL).map (shL (dM m)):=by
  unfold shM
  rw [List.map_map,List.map_map]
  exact List.map_congr_left fun b hb=>Z0v h (hs.ok b hb) (hsub b hb)
 refine⟨VS.of ?_ (by unfold shM; rw [List.length_map]; exact hs.len),fun p hp=>?_⟩
 ·unfold CFb
  rw [hmap]
  refine Zw5 tops5 h.mv hs.cf fun b hb=>?_
  obtain⟨x,hx,rfl⟩:=List.mem_map.1 hb
  exact hsub x hx
 ·unfold mem
  rw [hmap]
  unfold mS
  rw [List.any_map]
  exact Zzw fun b hb=>by
   obtain⟨x,hx,rfl⟩:=List.mem_map.1 hb
   exact Zw6 (dM m) (toL x) p rfl (dlen m hp)
theorem Z1w {a:List Bx} (h:VS a) (p:List Int):mem (a.filter vB) p=mem a p:=by rw [List.filter_eq_self.2 fun x hx=>ok_vB (h.ok x hx)]
theorem Z1x (b:Bx) (p:List Int):mem [b] p=mB (toL b) p:=by unfold mem mS; simp
theorem Z0w {b:Bx} (h:vB b=true) (p:List Int):mem ([b].filter vB) p=mB (toL b) p:=by rw [List.filter_cons,if_pos h]; exact Z1x b p
theorem Z0x {e:Bool} {r:List Bx × Int} (h:(kp e r).2=false):e=false∧r.2=0∧(kp e r).1=r.1:=by
 unfold kp at h ⊢
 split at h
 ·cases h
 ·rename_i hn
  rw [if_neg hn]
  refine⟨?_,?_,rfl⟩
  ·cases e with
   | true=>exact absurd (Or.inl rfl) hn
   | false=>rfl
  ·exact Classical.byContradiction fun h0=>hn (Or.inr h0)
theorem kp_sem {e:Bool} {op:Bool→Bool→Bool} {a b:List Bx} (h:(kp e (cmb op a b)).2=false):e=false∧∀ p,vP tops5 p→mem (kp e (cmb op a b)).1 p=op (mem (a.filter vB) p) (mem (b.filter vB) p):=by
 obtain⟨h1,h2,h3⟩:=Z0x h
 exact⟨h1,fun p hp=>by rw [h3,(cmb_ok op a b).2 h2 p hp]⟩
theorem Zn9:∀(l:List Bx) (e:Bool) (s:List Bx),(partsR e s l).2.2=false→e=false
 | [],_,_,h=>h
 | b :: l,e,s,h=>by
  simp only [partsR] at h
  split at h
  ·have h1:=Zn9 l _ _ h
   exact(kp_sem (kp_sem h1).1).1
  ·exact Zn9 l _ _ h
theorem Zvf:∀(l:List Zk) (ps:List (List Bx)) (s:ISt),(imgR s l ps).1=false→s.1=false
 | [],_,_,h=>by unfold imgR at h; exact h
 | _ :: _,[],_,h=>by unfold imgR at h; exact h
 | m :: l,p :: ps,s,h=>by
  unfold imgR at h
  have h1:=Zvf l ps _ h
  unfold istep at h1
  split at h1
  ·exact(kp_sem h1).1
  ·exact h1
end Go.AM
set_option maxRecDepth 100000
namespace Go.AM
open Go
theorem Z0y:Zk9=some full:=by kernel_rfl
theorem Zzx (m:Zk):Zhv m=some (turn m):=rfl
abbrev QSt:=Bool × List Bx × List Bx
noncomputable def qPart (s:QSt) (m:Zk):=uI s.1 s.2.2 [m.From]
noncomputable def qInto (to:List Bx) (s:QSt) (m:Zk):=uI (qPart s m).2 to [m.To]
noncomputable def qKept (to:List Bx) (s:QSt) (m:Zk):=uI (qInto to s m).2 (qPart s m).1 (shM (turn m) (qInto to s m).1)
noncomputable def qOut (to:List Bx) (s:QSt) (m:Zk):=uU (qKept to s m).2 s.2.1 (qKept to s m).1
noncomputable def qRest (to:List Bx) (s:QSt) (m:Zk):=uS (qOut to s m).2 s.2.2 [m.From]
noncomputable def qstep (to:List Bx) (s:QSt) (m:Zk):QSt:=if vM m=true then ((qRest to s m).2,(qOut to s m).1,(qRest to s m).1) else s
structure QOk (s:QSt):Prop where
 o:VS s.2.1
 r:VS s.2.2
theorem Zrz {to:List Bx} {s:QSt} (h:QOk s) (m:Zk):QOk (qstep to s m):=by
 unfold qstep
 split
 ·exact⟨(uU_vs _ _ _).1,(uS_vs _ _ _).1⟩
 ·exact h
theorem VS.full:VS [full]:=VS.of (CFb.single Zlg) (by simp)
noncomputable def preA (l:List Zk) (s:List Bx):List Bx × Int:=
 let o:=l.foldl (qstep (kp false (st s)).1) ((kp false (st s)).2,[],[full])
 let w:=uI o.1 o.2.2 (kp false (st s)).1
 resA ((uU w.2 o.2.1 w.1).2,(uU w.2 o.2.1 w.1).1)
theorem Zr0 (to:List Bx):∀(l:List Zk) (s:QSt),QOk s→QOk (l.foldl (qstep to) s)
 | [],_,h=>h
 | m :: l,s,h=>by rw [List.foldl_cons]; exact Zr0 to l _ (Zrz h m)
theorem Zxq {l:List Zk} (hl:l.length≤100000) (hin:∀ m∈l,MIn m) {s:List Bx} (hs:InL s):Zfu l s=some (preA l s):=by
 unfold Zfu preA
 rw [Zuh hs,Z0y]
 simp only [Option.bind_some]
 have hv:VS (kp false (st s)).1:=(kp_vs (st_ok s).1).1
 generalize kp false (st s)=t at hv ⊢
 have:=Zch (L:=fun n (s:QSt) i=>Zbw l (t.1,le t.2) n (le s.1) s.2.1 s.2.2 i) l (fun s _ m=>qstep t.1 s m) (fun s=>(le s.1,s.2.1,s.2.2)) (fun _ s=>QOk s) (by omega) (fun n s i hi hs=>by
  show Zbw l (t.1,le t.2) (n + 1) (le s.1) s.2.1 s.2.2 (i:Int)=_∧_
  have hb:=hin _ (List.getElem_mem hi)
  refine⟨?_,Zrz hs _⟩
  rw [Zbw]
  simp only [show ((i:Int)<(l.length:Int)) from by omega,decide_true,if_true,Z1 hi,Option.bind_some,Zj5,wsucc (by omega:i<1000000000001)]
  unfold qstep
  by_cases h:vM l[i]=true
  ·rw [if_pos h,h]
   simp only [Bool.not_true,Bool.false_eq_true,if_false]
   rw [lI_eq hs.r.inL (InL.one hb.f)]
   simp only [Option.bind_some,Zzx]
   rw [lI_eq hv.inL (InL.one hb.t)]
   simp only [Option.bind_some]
   rw [Zm8 (uI_vs _ _ _).1.inL.len]
   simp only [Option.bind_some]
   rw [lI_eq (uI_vs _ _ _).1.inL (shM_in (uI_vs _ _ _).1.inL.len)]
   simp only [Option.bind_some]
   rw [lU_eq hs.o.inL (uI_vs _ _ _).1.inL]
   simp only [Option.bind_some]
   rw [lS_eq hs.r.inL (InL.one hb.f)]
   rfl
  ·rw [if_neg h]
   rw [Bool.not_eq_true] at h
   rw [h]
   rfl) (fun n s hs=>by
  show Zbw l (t.1,le t.2) (n + 1) (le s.1) s.2.1 s.2.2 (l.length:Int)=_
  rw [Zbw]; simp) (t.2,[],[full]) ⟨VS.nil,VS.full⟩
 have h1:=this.1
 simp only at h1
 rw [h1,Zly (qstep t.1)]
 have hok:=Zr0 t.1 l (t.2,[],[full]) ⟨VS.nil,VS.full⟩
 simp only [Option.bind_some]
 rw [lI_eq hok.r.inL hv.inL]
 simp only [Option.bind_some]
 rw [lU_eq hok.o.inL (uI_vs _ _ _).1.inL]
 simp only [Option.bind_some]
 rw [Zvd (uU_vs _ _ _).1.inL.len]
 rfl
theorem Zw7 {l:List Zk} (hl:l.length≤100000) (hin:∀ m∈l,MIn m) {s:List Bx} (hs:InL s):Zfv l s=some (preA l s):=by
 unfold Zfv preA
 rw [Zw1 hs,Zt2]
 simp only [Option.bind_some]
 have hv:VS (kp false (st s)).1:=(kp_vs (st_ok s).1).1
 generalize kp false (st s)=t at hv ⊢
 have:=Zch (L:=fun n (s:QSt) i=>Zbx l (t.1,⟨t.2⟩) n ⟨s.1⟩ s.2.2 s.2.1 i) l (fun s _ m=>qstep t.1 s m) (fun s=>(⟨s.1⟩,s.2.2,s.2.1)) (fun _ s=>QOk s) (by omega) (fun n s i hi hs=>by
  show Zbx l (t.1,⟨t.2⟩) (n + 1) ⟨s.1⟩ s.2.2 s.2.1 (i:Int)=_∧_
  have hb:=hin _ (List.getElem_mem hi)
  refine⟨?_,Zrz hs _⟩
  rw [Zbx]
  simp only [show ((i:Int)<(l.length:Int)) from by omega,decide_true,if_true,Z1 hi,Option.bind_some,Zoj,wsucc (by omega:i<1000000000001)]
  unfold qstep
  by_cases h:vM l[i]=true
  ·rw [if_pos h,h]
   simp only [Bool.not_true,Bool.false_eq_true,if_false]
   rw [fI_eq hs.r.inL (InL.one hb.f)]
   simp only [Option.bind_some]
   rw [fI_eq hv.inL (InL.one hb.t)]
   simp only [Option.bind_some]
   rw [Zm7 (uI_vs _ _ _).1.inL.len]
   simp only [Option.bind_some]
   rw [show ((uI (uI s.1 s.2.2 [(l[i]).From]).2 t.1 [(l[i]).To]).1.map fun b=>shB b (l[i]).To (l[i]).From)=shM (turn l[i]) (uI (uI s.1 s.2.2 [(l[i]).From]).2 t.1 [(l[i]).To]).1 from rfl]
   rw [fI_eq (uI_vs _ _ _).1.inL (shM_in (uI_vs _ _ _).1.inL.len)]
   simp only [Option.bind_some]
   rw [fU_eq hs.o.inL (uI_vs _ _ _).1.inL]
   simp only [Option.bind_some]
   rw [fS_eq hs.r.inL (InL.one hb.f)]
   rfl
  ·rw [if_neg h]
   rw [Bool.not_eq_true] at h
   rw [h]
   rfl) (fun n s hs=>by
  show Zbx l (t.1,⟨t.2⟩) (n + 1) ⟨s.1⟩ s.2.2 s.2.1 (l.length:Int)=_
  rw [Zbx]; simp) (t.2,[],[full]) ⟨VS.nil,VS.full⟩
 have h1:=this.1
 simp only at h1
 rw [h1,Zly (qstep t.1)]
 have hok:=Zr0 t.1 l (t.2,[],[full]) ⟨VS.nil,VS.full⟩
 simp only [Option.bind_some]
 rw [fI_eq hok.r.inL hv.inL]
 simp only [Option.bind_some]
 rw [fU_eq hok.o.inL (uI_vs _ _ _).1.inL]
 simp only [Option.bind_some]
 rw [Ztg]
 rfl
theorem Z1y {q:List Int} (hv:vP tops5 q):∃ a b c d e,q=[a,b,c,d,e]:=by
 have:=vP_len hv
 rcases q with _ | ⟨a,_ | ⟨b,_ | ⟨c,_ | ⟨d,_ | ⟨e,_ | ⟨g,l⟩⟩⟩⟩⟩⟩ <;> simp [tops5] at this
 exact⟨a,b,c,d,e,rfl⟩
end Go.AM
set_option maxRecDepth 100000
namespace Go.AM
open Go
theorem MIn.mk' {m:Zk} (h:MIn m) {b:Arr5 Zb} (hb:BIn b):MIn { m with To:=b }:=⟨h.f,hb⟩
theorem u32sub {a:Int} (h0:0≤a) (h1:a≤65535):IntKind.wrap .u32 (65535 - a)=65535 - a:=wu32 (by omega) (by omega)
theorem RIn.mk' {a b:Int} (h0:0≤a) (h1:a<4294967296):RIn ⟨a,IntKind.wrap .u32 b⟩:=⟨h0,h1,(Zgk b).1,(Zgk b).2⟩
theorem Z1z {t:Zh} (ht:TOk t):Ok (Zfs t) fun r=>MIn r.1∧TOk r.2:=by
 unfold Zfs
 rw [Zt2]
 refine Ok.lift ?_
 refine Ok.bind (Zde ht 2 (by omega) (by omega)) fun r3 ⟨⟨a0,a1⟩,h3⟩=>?_
 refine Ok.bind (Ok.idx (p:=fun x=>0≤x∧x<4294967296) a0 (by simpa using a1) fun x hx=>?_) fun x5 hx5=>?_
 ·simp only [List.mem_cons,List.not_mem_nil,or_false] at hx
  omega
 refine Ok.bind (Zde h3 2 (by omega) (by omega)) fun r7 ⟨⟨a0,a1⟩,h7⟩=>?_
 refine Ok.bind (Ok.idx (p:=fun x=>0≤x∧x<4294967296) a0 (by simpa using a1) fun x hx=>?_) fun x9 hx9=>?_
 ·simp only [List.mem_cons,List.not_mem_nil,or_false] at hx
  omega
 refine Ok.bind (Zmn h7 (by omega) (by omega)) fun r11 ⟨⟨b0,b1⟩,h11⟩=>?_
 refine Ok.bind (Zde h11 3 (by omega) (by omega)) fun r13 ⟨_,h13⟩=>?_
 refine Ok.bind (Zde h13 4 (by omega) (by omega)) fun r15 ⟨⟨c0,c1⟩,h15⟩=>?_
 refine Ok.bind (Zde h15 5 (by omega) (by omega)) fun r17 ⟨_,h17⟩=>?_
 refine Ok.bind Zpq fun p hp=>Ok.bind (Of_ok hp) fun q hq=>?_
 refine Ok.bind (Zmn h17 (by omega) (by omega)) fun r23 ⟨⟨d0,d1⟩,h23⟩=>Ok.ret ⟨?_,h23⟩
 have hl:=hq.rin (by omega)
 rw [u32sub b0 (by omega),wu32 c0 (by omega)]
 have hm:0≤iMin r15.1 (65535 - r11.1)∧iMin r15.1 (65535 - r11.1)≤3:=by unfold iMin; split <;> omega
 rw [u32sub hm.1 (by omega)]
 have hn:0≤iMin r23.1 (65535 - iMin r15.1 (65535 - r11.1))∧iMin r23.1 (65535 - iMin r15.1 (65535 - r11.1))≤65000:=by unfold iMin; split <;> omega
 exact⟨⟨Zlg.bin.h0,RIn.mk' hx9.1 hx9.2,⟨hx5.1,hx5.2,hx5.1,hx5.2⟩,Zlg.bin.h3,RIn.mk' b0 (by omega)⟩,⟨Zlg.bin.h0,RIn.mk' hl.h0 hl.h1,⟨hx5.1,hx5.2,hx5.1,hx5.2⟩,Zlg.bin.h3,RIn.mk' hn.1 (by omega)⟩⟩
theorem Zq6 (wild:Bool):∀(n:Nat) (t:Zh) (l:List Zk) (i:Int),TOk t→(∀ x∈l,MIn x)→i≤n→0≤i→i<100→(l.length:Int) + i<1000 →
  Ok (Zb2 wild (n + 1) t l i) fun r=>TOk r.1∧(∀ x∈r.2,MIn x)∧(r.2.length:Int)=l.length + i
 | 0,t,l,i,ht,hl,hi,h0,h9,hlen=>by
  rw [Zb2]
  exact Ok.ite (fun hc=>absurd (of_decide_eq_true hc) (by omega)) fun _=>Ok.ret ⟨ht,hl,by show (l.length:Int)=_; omega⟩
 | n + 1,t,l,i,ht,hl,hi,h0,h9,hlen=>by
  rw [Zb2]
  refine Ok.ite (fun hc=>?_) fun hc=>Ok.ret ⟨ht,hl,by simp at hc; show (l.length:Int)=_; omega⟩
  have hc:=of_decide_eq_true hc
  refine Ok.bind (p:=fun r=>TOk r.1∧(∀ x∈r.2,MIn x)∧r.2.length=l.length + 1) ?_ fun r ⟨h1,h2,h3⟩=>?_
  ·refine Ok.bind (Z1z ht) fun q ⟨g1,g2⟩=>?_
   refine Ok.bind (p:=fun o=>TOk o.1∧MIn o.2) ?_ fun o ⟨k1,k2⟩=>?_
   ·refine Ok.lift ?_
    refine Ok.bind (p:=fun v=>TOk v.2) ?_ fun v k1=>?_
    ·refine Ok.ite (fun hw=>?_) fun _=>Ok.ret g2
     exact Ok.bind (Zde g2 6 (by omega) (by omega)) fun r190 ⟨_,h6⟩=>Ok.ret h6
    ·refine Ok.ite (fun hv=>?_) fun _=>Ok.ret ⟨k1,g1⟩
     exact Ok.bind (Zqz k1 g1.t) fun r196 ⟨m1,m2⟩=>Ok.ret ⟨m2,g1.f,m1⟩
   ·obtain⟨o1,o2⟩:=o
    refine Ok.bind (p:=fun o=>TOk o.1∧MIn o.2) ?_ fun o ⟨k1,k2⟩=>?_
    ·refine Ok.lift ?_
     refine Ok.bind (p:=fun v=>TOk v.2) ?_ fun v k3=>?_
     ·refine Ok.ite (fun hw=>?_) fun _=>Ok.ret k1
      exact Ok.bind (Zde k1 6 (by omega) (by omega)) fun r190 ⟨_,h6⟩=>Ok.ret h6
     ·exact Ok.ite (fun hv=>Ok.ret ⟨k3,k2.t,k2.f⟩) fun _=>Ok.ret ⟨k3,k2⟩
    ·obtain⟨o1,o2⟩:=o
     refine Ok.chk (by simp only [List.length_singleton]; unfold lim; omega) (Ok.ret ⟨k1,fun x hx=>?_,by simp⟩)
     rcases List.mem_append.1 hx with hx | hx
     ·exact hl x hx
     ·simp only [List.mem_singleton] at hx; subst hx; exact k2
  ·obtain⟨r1,r2⟩:=r
   simp only at h1 h2 h3
   show Ok (Zb2 wild (n + 1) r1 r2 (IntKind.wrap .i64 (i - 1))) _
   rw [wi64 (by omega) (by omega)]
   refine(Zq6 wild n r1 r2 (i - 1) h1 h2 (by omega) (by omega) (by omega) (by omega)).mono fun v ⟨e1,e2,e3⟩=>⟨e1,e2,?_⟩
   omega
theorem Z0z (wild:Bool) {t:Zh} (ht:TOk t) {n:Int} (h0:0≤n) (h1:n<90):Ok (Zfi t n wild) fun r=>(∀ x∈r.1,MIn x)∧(r.1.length:Int)≤n∧TOk r.2:=by
 unfold Zfi
 rw [wi64 (x:=n + 1) (by omega) (by omega)]
 refine Ok.bind (Zde ht (n + 1) (by omega) (by omega)) fun r ⟨⟨h2,h3⟩,h4⟩=>?_
 refine Ok.bind (Zq6 wild 1180591620717411303423 r.2 [] r.1 h4 (by simp) (by omega) h2 (by omega) (by simp; omega)) fun q ⟨g1,g2,g3⟩=>?_
 obtain⟨q1,q2⟩:=q
 refine Ok.ret ⟨g2,?_,g1⟩
 simp at g3
 show (q2.length:Int)≤n
 omega
theorem Zy3 {l:List Zk} (hl:∀ m∈l,MIn m) (hn:l.length≤100000):Ok (Zhm l) fun r=>(∀ b∈r,BIn b)∧r.length=2 * l.length:=by
 unfold Zhm
 refine Ok.bind (p:=fun r=>(∀ b∈r,BIn b)∧r.length=2 * l.length) ?_ fun r hr=>Ok.ret hr
 refine Zt4 (L:=Zea l) l (fun i s=>(∀ b∈s,BIn b)∧s.length=2 * i) (by omega) (fun n s i hi ⟨h1,h2⟩ k=>?_) (fun n s h=>?_) [] ⟨by simp,rfl⟩
 ·rw [Zea]
  rw [if_pos (decide_eq_true (show (i:Int)<l.length by omega))]
  simp only [Z1 hi,Option.bind_some]
  refine Ok.chk (by simp only [List.length_cons,List.length_nil]; unfold lim; omega) ?_
  rw [wsucc (by omega)]
  refine k _ ⟨fun b hb=>?_,by simp [h2]; omega⟩
  simp only [List.mem_append,List.mem_cons,List.not_mem_nil,or_false] at hb
  have hm:=hl _ (List.getElem_mem hi)
  rcases hb with hb | rfl | rfl
  ·exact h1 _ hb
  ·exact hm.f
  ·exact hm.t
 ·rw [Zea]
  rw [if_neg (by simp)]
  exact Ok.ret h
theorem Z12 {m:Zk} (h:Zmw m):MIn m:=⟨Zwh h.1,Zwh h.2.1⟩
end Go.AM
set_option maxRecDepth 100000
namespace Go.AM
open Go
end Go.AM
set_option maxRecDepth 100000
namespace Go.AM
open Go
theorem CFb.nil_iff {l:List Bx} (h:CFb l):l=[] ↔ ∀ p,vP tops5 p→mem l p=false:=
 ⟨fun e p _=>by rw [e]; rfl,fun e=>h.inj CFb.nil fun p hp=>by rw [e p hp]; rfl⟩
theorem Set_ok {t:Zh} (ht:TOk t) {n:Int} (h0:0≤n) (h1:n<90):Ok (Zgg t n) fun r=>VS r.1∧TOk r.2:=by
 unfold Zgg
 refine Ok.bind (Zwg false ht h0 h1) fun r1 ⟨g1,g2,g3⟩=>?_
 rw [Zwy (by omega) (fun x hx=>(g1 x hx).1)]
 refine Ok.lift (Ok.ret ⟨?_,g3⟩)
 exact(mkF_ok (r1.1.filter vB) [] VS.nil).1.vs
theorem Zyg {s:ISt} (h:ISok s):SetOr (resA s):=by
 unfold resA
 split
 ·exact⟨VS.nil,Or.inr rfl⟩
 ·exact⟨h.vs,Or.inl rfl⟩
theorem Zzy (l:List Zk) (s:List Bx):SetOr (imageA l s):=Zyg ⟨(uU_vs _ _ _).1,(uU_vs _ _ _).2⟩
theorem Z10 (l:List Zk) (s:List Bx):SetOr (preA l s):=Zyg ⟨(uU_vs _ _ _).1,(uU_vs _ _ _).2⟩
end Go.AM
set_option maxRecDepth 100000
namespace Go.AM
open Go
def meets (a b:List Bx):Prop:=∃ p,vP tops5 p∧mem a p=true∧mem b p=true
theorem Zj7 {a b:List Bx} (h:meets a b):meets b a:=by obtain⟨p,h1,h2,h3⟩:=h; exact⟨p,h1,h3,h2⟩
theorem Zvg (a:List Bx):¬ meets a []:=fun⟨_,_,_,h⟩=>by cases h
noncomputable def mt2 (a b:List Bx):Bool:=((cmb oA a b).2 != 0) || decide (((cmb oA a b).1.length:Int) > 0)
theorem Zyh {a b:List Bx} (ha:VS a) (hb:VS b):mt2 a b=true ↔ meets a b:=by
 unfold mt2 cmb
 rw [Znt ha,Znt hb]
 simp only [ne_eq,not_true_eq_false,if_false]
 have hC:=Zgd oA a b
 have e:can oA a b ≠ [] ↔ meets a b:=by
  constructor
  ·intro h
   apply Classical.byContradiction
   intro hn
   refine h ((hC.cf.nil_iff).2 fun p hp=>?_)
   rw [hC.mem p hp,oA]
   cases h1:mem a p with
   | false=>rfl
   | true=>cases h2:mem b p with
    | false=>rfl
    | true=>exact absurd ⟨p,hp,h1,h2⟩ hn
  ·rintro⟨p,hp,h1,h2⟩ h
   have:=(hC.cf.nil_iff).1 h p hp
   rw [hC.mem p hp,oA,h1,h2] at this
   cases this
 rw [← e]
 unfold capB
 by_cases hl:(can oA a b).length≤4096
 ·rw [if_pos hl]
  simp only [bne_self_eq_false,Bool.false_or,decide_eq_true_eq]
  rw [← List.length_pos_iff]
  omega
 ·rw [if_neg hl]
  simp only [show ((3:Int) != 0)=true by decide,Bool.true_or,true_iff]
  intro h
  rw [h] at hl
  simp at hl
theorem Znv {a b:Zb} {top:Int} (ha:ROk top a) (hb:ROk top b):sideBad top (ixr a b)=false ↔ a.Lo≤b.Hi∧b.Lo≤a.Hi:=by
 rw [Zvq]
 have:=ha.h1
 have:=ha.h2
 have:=hb.h1
 have:=hb.h2
 unfold ixr iMax iMin
 simp only
 split <;> split <;> omega
theorem Z00 {b:Bx}:vB b=true ↔ sideBad 4294967295 b.x0=false∧sideBad 4294967295 b.x1=false∧sideBad 255 b.x2=false∧sideBad 65535 b.x3=false∧sideBad 65535 b.x4=false:=by
 unfold vB
 cases sideBad 4294967295 b.x0 <;> cases sideBad 4294967295 b.x1 <;> cases sideBad 255 b.x2 <;> cases sideBad 65535 b.x3 <;> cases sideBad 65535 b.x4 <;> simp
theorem xB_iff {x y:Bx} (hx:BOk x) (hy:BOk y):(xB x y).2=true ↔ ∃ p,vP tops5 p∧mB (toL x) p=true∧mB (toL y) p=true:=by
 have e:(xB x y).2=vB (isect x y):=by
  unfold xB
  rw [ok_vB hx,ok_vB hy]
  cases vB (isect x y) <;> rfl
 have e2:vB (isect x y)=true ↔ (x.x0.Lo≤y.x0.Hi∧y.x0.Lo≤x.x0.Hi)∧(x.x1.Lo≤y.x1.Hi∧y.x1.Lo≤x.x1.Hi)∧(x.x2.Lo≤y.x2.Hi∧y.x2.Lo≤x.x2.Hi)∧(x.x3.Lo≤y.x3.Hi∧y.x3.Lo≤x.x3.Hi)∧(x.x4.Lo≤y.x4.Hi∧y.x4.Lo≤x.x4.Hi):=by
  rw [Z00]
  show sideBad 4294967295 (ixr x.x0 y.x0)=false∧sideBad 4294967295 (ixr x.x1 y.x1)=false∧sideBad 255 (ixr x.x2 y.x2)=false∧sideBad 65535 (ixr x.x3 y.x3)=false∧sideBad 65535 (ixr x.x4 y.x4)=false ↔ _
  rw [Znv hx.h0 hy.h0,Znv hx.h1 hy.h1,Znv hx.h2 hy.h2,Znv hx.h3 hy.h3,Znv hx.h4 hy.h4]
 rw [e,e2]
 constructor
 ·rintro⟨h0,h1,h2,h3,h4⟩
  have bx:=ok_vR hx
  refine⟨[max x.x0.Lo y.x0.Lo,max x.x1.Lo y.x1.Lo,max x.x2.Lo y.x2.Lo,max x.x3.Lo y.x3.Lo,max x.x4.Lo y.x4.Lo],?_,?_,?_⟩
  ·have:=hx.h0.h0; have:=hx.h0.h1; have:=hx.h0.h2; have:=hy.h0.h0; have:=hy.h0.h1
   have:=hx.h1.h0; have:=hx.h1.h1; have:=hx.h1.h2; have:=hy.h1.h0; have:=hy.h1.h1
   have:=hx.h2.h0; have:=hx.h2.h1; have:=hx.h2.h2; have:=hy.h2.h0; have:=hy.h2.h1
   have:=hx.h3.h0; have:=hx.h3.h1; have:=hx.h3.h2; have:=hy.h3.h0; have:=hy.h3.h1
   have:=hx.h4.h0; have:=hx.h4.h1; have:=hx.h4.h2; have:=hy.h4.h0; have:=hy.h4.h1
   simp only [tops5,vP,and_true]
   omega
  ·have:=hx.h0.h1; have:=hx.h1.h1; have:=hx.h2.h1; have:=hx.h3.h1; have:=hx.h4.h1
   simp only [toL,mB,Bool.and_eq_true,Zdz,and_true]
   omega
  ·have:=hy.h0.h1; have:=hy.h1.h1; have:=hy.h2.h1; have:=hy.h3.h1; have:=hy.h4.h1
   simp only [toL,mB,Bool.and_eq_true,Zdz,and_true]
   omega
 ·rintro⟨p,hp,h1,h2⟩
  obtain⟨a,b,c,d,e,rfl⟩:=Z1y hp
  simp only [toL,mB,Bool.and_eq_true,Zdz,and_true] at h1 h2
  omega
theorem Zoa {α:Type} (p:α→Bool):∀(l:List α) (i:Nat),findI (fun _ x=>if p x=true then some true else none) i l=if l.any p=true then some true else none
 | [],_=>rfl
 | x :: l,i=>by
  by_cases h:p x=true
  ·simp only [findI,if_pos h,List.any_cons,h,Bool.true_or,if_true]
  ·rw [Bool.not_eq_true] at h
   simp only [findI,List.any_cons,h,Bool.false_eq_true,if_false,Bool.false_or]
   exact Zoa p l (i + 1)
theorem Z01 {a b:List Bx} (ha:a.length≤1000000) (hb:b.length≤1000000):Zhp a b=some (a.any fun x=>b.any fun y=>(xB x y).2):=by
 unfold Zhp
 have h2:∀(i:Nat) (hi:i<a.length),Zdo a b (i:Int) fuel 0=some (if (b.any fun y=>(xB a[i] y).2)=true then .inr true else .inl ()):=by
  intro i hi
  rw [Zhs (L:=Zdo a b (i:Int)) b (fun _ y=>if (xB a[i] y).2=true then some true else none) (by omega) (fun n j hj=>by
   rw [Zdo]
   simp only [show ((j:Int)<(b.length:Int)) from by omega,decide_true,if_true,Z1 hi,Z1 hj,Option.bind_some,Zvm,wsucc (by omega:j<1000000000001)]
   cases (xB a[i] b[j]).2 <;> rfl) (fun n=>by rw [Zdo]; simp),Zoa]
  cases (b.any fun y=>(xB a[i] y).2) <;> rfl
 rw [Zhs (L:=Zei a b) a (fun _ x=>if (b.any fun y=>(xB x y).2)=true then some true else none) (by omega) (fun n i hi=>by
  rw [Zei,if_pos (by simp; omega),h2 i hi]
  simp only [Option.bind_some]
  rw [wsucc (by omega)]
  cases (b.any fun y=>(xB a[i] y).2) <;> rfl) (fun n=>by rw [Zei]; simp),Zoa]
 cases (a.any fun x=>b.any fun y=>(xB x y).2) <;> rfl
theorem Zyi {a b:List Bx} (ha:VS a) (hb:VS b):(a.any fun x=>b.any fun y=>(xB x y).2)=true ↔ meets a b:=by
 rw [List.any_eq_true]
 constructor
 ·rintro⟨x,hx,h⟩
  obtain⟨y,hy,h⟩:=List.any_eq_true.1 h
  obtain⟨p,hp,h1,h2⟩:=(xB_iff (ha.ok x hx) (hb.ok y hy)).1 h
  exact⟨p,hp,mS_iff.2 ⟨_,List.mem_map_of_mem hx,h1⟩,mS_iff.2 ⟨_,List.mem_map_of_mem hy,h2⟩⟩
 ·rintro⟨p,hp,h1,h2⟩
  obtain⟨_,gx,h3⟩:=mS_iff.1 h1
  obtain⟨_,gy,h4⟩:=mS_iff.1 h2
  obtain⟨x,hx,rfl⟩:=List.mem_map.1 gx
  obtain⟨y,hy,rfl⟩:=List.mem_map.1 gy
  exact⟨x,hx,List.any_eq_true.2 ⟨y,hy,(xB_iff (ha.ok x hx) (hb.ok y hy)).2 ⟨p,hp,h3,h4⟩⟩⟩
def imgsP:List Zk→List (List Bx)→List (List Bx)
 | m :: l,p :: ps=>if vM m=true then shM m p :: imgsP l ps else imgsP l ps
 | _,_=>[]
def imgsR:List Zk→List (List Bx)→List (List Bx)
 | m :: l,p :: ps=>shM m p :: imgsR l ps
 | _,_=>[]
def Apart (l:List (List Bx)):Prop:=l.Pairwise fun a b=>¬ meets a b
theorem Zvh:∀(l:List Zk) (ps:List (List Bx)),(∀ i (h:i<l.length),vM l[i]=false→ps[i]? = some [])→(Apart (imgsP l ps) ↔ Apart (imgsR l ps))∧∀ x,(∀ y∈imgsP l ps,¬ meets x y) ↔ (∀ y∈imgsR l ps,¬ meets x y)
 | [],_,_=>⟨Iff.rfl,fun _=>Iff.rfl⟩
 | _ :: _,[],_=>⟨Iff.rfl,fun _=>Iff.rfl⟩
 | m :: l,p :: ps,h=>by
  obtain⟨i1,i2⟩:=Zvh l ps fun i hi hv=>by
   have:=h (i + 1) (by simpa using hi) (by simpa using hv)
   simpa using this
  simp only [imgsP,imgsR]
  by_cases hv:vM m=true
  ·rw [if_pos hv]
   refine⟨?_,fun x=>?_⟩
   ·unfold Apart at i1 ⊢
    rw [List.pairwise_cons,List.pairwise_cons,i1,i2]
   ·simp only [List.forall_mem_cons,i2]
  ·rw [if_neg hv]
   have hp:=h 0 (by simp) (by simpa using hv)
   simp only [List.getElem?_cons_zero,Option.some.injEq] at hp
   subst hp
   have hs:shM m []=[]:=rfl
   rw [hs]
   refine⟨?_,fun x=>?_⟩
   ·unfold Apart at i1 ⊢
    rw [List.pairwise_cons,i1]
    exact⟨fun h=>⟨fun y _ hm=>Zvg _ (Zj7 hm),h⟩,fun h=>h.2⟩
   ·simp only [List.forall_mem_cons,i2]
    exact⟨fun h=>⟨Zvg x,h⟩,fun h=>h.2⟩
end Go.AM
set_option maxRecDepth 100000
namespace Go.AM
open Go
theorem Zr1:∀(l:List Bx) (e:Bool) (s:List Bx),VS s→(∀ b∈l,BIn b)→(partsR e s l).2.2=false→∀ i (h:i<l.length),vB l[i]=true→∀ q,(partsR e s l).1[i]? = some q→∀ p,vP tops5 p→mem q p=true→mB (toL l[i]) p=true
 | [],_,_,_,_,_,i,h,_,_,_,_,_,_=>by simp at h
 | b :: l,e,s,hs,hb,hf,i,h,hv,q,hq,p,hp,hm=>by
  have hb':∀ b∈l,BIn b:=fun x hx=>hb x (List.mem_cons_of_mem _ hx)
  simp only [partsR] at hf hq
  by_cases hvb:vB b=true
  ·rw [if_pos hvb] at hf hq
   cases i with
   | zero=>
    simp only [List.getElem?_cons_zero,Option.some.injEq] at hq
    subst hq
    have g1:=Zn9 _ _ _ hf
    obtain⟨g2,_⟩:=kp_sem g1
    obtain⟨_,gI⟩:=kp_sem g2
    have:=gI p hp
    rw [Z1w hs,Z0w hvb] at this
    have e3:mem (uI e s [b]).1 p=(mem s p && mB (toL b) p):=this
    rw [e3,Bool.and_eq_true] at hm
    exact hm.2
   | succ i=>
    simp only [List.getElem?_cons_succ] at hq
    exact Zr1 l _ _ (uS_vs _ _ _).1 hb' hf i (by simpa using h) (by simpa using hv) q hq p hp hm
  ·rw [if_neg hvb] at hf hq
   cases i with
   | zero=>exact absurd (by simpa using hv) hvb
   | succ i=>
    simp only [List.getElem?_cons_succ] at hq
    exact Zr1 l _ _ hs hb' hf i (by simpa using h) (by simpa using hv) q hq p hp hm
theorem frm_in {l:List Zk} (hin:∀ m∈l,MIn m):∀ x∈l.map frm,BIn x:=fun x hx=>by
 obtain⟨m,hm,rfl⟩:=List.mem_map.1 hx
 unfold frm
 split
 ·exact(hin m hm).f
 ·exact⟨⟨by decide,by decide,by decide,by decide⟩,⟨by decide,by decide,by decide,by decide⟩,⟨by decide,by decide,by decide,by decide⟩,⟨by decide,by decide,by decide,by decide⟩,⟨by decide,by decide,by decide,by decide⟩⟩
theorem Zyj:∀(l:List Zk) (ps:List (List Bx)),(∀ m∈l,MIn m)→ps.length=l.length→(∀ q∈ps,VS q)→(∀ i (h:i<l.length),vM l[i]=true→∀ q,ps[i]? = some q→∀ p,vP tops5 p→mem q p=true→mB (toL (l[i]).From) p=true)→(∀ i (h:i<l.length),vM l[i]=false→ps[i]? = some [])→∀ x∈imgsR l ps,VS x
 | [],_,_,_,_,_,_,x,hx=>by unfold imgsR at hx; cases hx
 | _ :: _,[],_,h,_,_,_,_,_=>by simp at h
 | m :: l,q :: ps,hin,hl,hv,hb,h0,x,hx=>by
  unfold imgsR at hx
  rcases List.mem_cons.1 hx with rfl | hx
  ·by_cases hm:vM m=true
   ·exact(shM_ok (vM_MN (hin m (List.mem_cons_self ..)) hm) (hv q (List.mem_cons_self ..)) (hb 0 (by simp) hm q rfl)).1
   ·have:=h0 0 (by simp) (by simpa using hm)
    simp only [List.getElem?_cons_zero,Option.some.injEq] at this
    subst this
    exact VS.nil
  ·refine Zyj l ps (fun z hz=>hin z (List.mem_cons_of_mem _ hz)) (by simpa using hl) (fun z hz=>hv z (List.mem_cons_of_mem _ hz)) (fun i h hv2 q2 hq2=>?_) (fun i h hv2=>?_) x hx
   ·exact hb (i + 1) (by simpa using h) hv2 q2 hq2
   ·have:=h0 (i + 1) (by simpa using h) hv2
    simpa using this
theorem Zp1:∀(l:List Zk) (ps:List (List Bx)),∀ x∈imgsP l ps,x∈imgsR l ps
 | [],_,x,hx=>by unfold imgsP at hx; cases hx
 | _ :: _,[],x,hx=>by unfold imgsP at hx; cases hx
 | m :: l,q :: ps,x,hx=>by
  unfold imgsP at hx
  unfold imgsR
  split at hx
  ·rcases List.mem_cons.1 hx with rfl | hx
   ·exact List.mem_cons_self ..
   ·exact List.mem_cons_of_mem _ (Zp1 l ps x hx)
  ·exact List.mem_cons_of_mem _ (Zp1 l ps x hx)
theorem Inj_L1 {l:List Zk} {r7:List (List Bx) × List Bx × Zl} (hl:l.length≤100000) (hr:r7.1.length=l.length) (hv:∀ q∈r7.1,VS q) (acc:List (List Bx)) (ha:acc.length≤10):Zb8 l r7 fuel acc 0=some (acc++imgsP l r7.1):=by
 have hz:(l.zip r7.1).length=l.length:=by rw [List.length_zip,hr,Nat.min_self]
 have:=Zch (L:=Zb8 l r7) (l.zip r7.1) (fun s _ x=>s++if vM x.1=true then [shM x.1 x.2] else []) id (fun i s=>s.length≤10 + i) (by omega) (fun n s i hi hs=>by
  have hil:i<l.length:=by omega
  have hir:i<r7.1.length:=by omega
  have hzi:(l.zip r7.1)[i]=(l[i],r7.1[i]):=List.getElem_zip
  rw [hzi]
  rw [Zb8]
  simp only [show ((i:Int)<(r7.1.length:Int)) from by omega,decide_true,if_true,Z1 hil,Z1 hir,Option.bind_some,Zj5,wsucc (by omega:i<1000000000001),List.length_singleton]
  by_cases h:vM l[i]=true
  ·rw [if_pos h,if_pos h,Zm8 (hv _ (List.getElem_mem hir)).inL.len]
   simp only [Option.bind_some]
   rw [if_pos (show s.length + 1≤lim by unfold lim; omega)]
   exact⟨rfl,by simp; omega⟩
  ·rw [if_neg h,if_neg h,List.append_nil]
   exact⟨rfl,by omega⟩) (fun n s hs=>by rw [Zb8,if_neg (by rw [hz]; simp; omega)]; rfl) acc (by omega)
 rw [this.1]
 have e:∀(l:List Zk) (ps acc:List (List Bx)) (i:Nat),foldI (fun s _ (x:Zk × List Bx)=>s++if vM x.1=true then [shM x.1 x.2] else []) acc i (l.zip ps)=acc++imgsP l ps:=by
  intro l
  induction l with
  | nil=>intro ps acc i; simp [foldI,imgsP]
  | cons m l ih=>
   intro ps acc i
   cases ps with
   | nil=>simp [foldI,imgsP]
   | cons p ps=>
    simp only [List.zip_cons_cons,foldI,imgsP]
    rw [ih]
    by_cases h:vM m=true
    ·rw [if_pos h,if_pos h,List.append_assoc]; rfl
    ·rw [if_neg h,if_neg h,List.append_nil]
 rw [e]
 rfl
theorem Inj_L2 {im:List (List Bx)} (hl:im.length≤100000) (hv:∀ x∈im,VS x):∃ o,Zca im fuel im 0=some o∧((Apart im→o=.inl im)∧(¬ Apart im→o=.inr (false,0))):=by
 have h3:∀(i:Nat) (hi:i<im.length),Zb9 im (i:Int) fuel 0=some (if ((im.take i).any (mt2 im[i]))=true then .inr (false,0) else .inl ()):=by
  intro i hi
  have hd:List.drop (Int.toNat (0:Int)) (List.take (Int.toNat (i:Int)) im)=im.take i:=rfl
  have ht:(im.take i).length=i:=by rw [List.length_take]; omega
  rw [Zhs (L:=Zb9 im (i:Int)) (im.take i) (fun _ y=>if mt2 im[i] y=true then some (false,(0:Int)) else none) (by omega) (fun n j hj=>by
   have hy:=hv _ (List.mem_of_mem_take (List.getElem_mem hj))
   rw [Zb9]
   simp only [hd,show ((j:Int)<((im.take i).length:Int)) from by omega,decide_true,if_true,Z1 hi,Z1 hj,Option.bind_some,wsucc (by omega:j<1000000000001)]
   rw [Zok (hv _ (List.getElem_mem hi)).inL.len hy.inL.len (hv _ (List.getElem_mem hi)).inL.bin hy.inL.bin]
   simp only [Option.bind_some]
   have e:((cmb oA im[i] (im.take i)[j]).2 != 0 || decide (((cmb oA im[i] (im.take i)[j]).1.length:Int) > 0))=mt2 im[i] (im.take i)[j]:=rfl
   rw [e]
   cases mt2 im[i] (im.take i)[j] <;> rfl) (fun n=>by rw [Zb9,hd,if_neg (by simp)])]
  have e:∀(l:List (List Bx)) (k:Nat),findI (fun _ y=>if mt2 im[i] y=true then some (false,(0:Int)) else none) k l=if l.any (mt2 im[i])=true then some (false,(0:Int)) else none:=by
   intro l
   induction l with
   | nil=>intro k; rfl
   | cons y l ih=>
    intro k
    by_cases h:mt2 im[i] y=true
    ·simp only [findI,if_pos h,List.any_cons,h,Bool.true_or,if_true]
    ·rw [Bool.not_eq_true] at h
     simp only [findI,List.any_cons,h,Bool.false_eq_true,if_false,Bool.false_or]
     exact ih (k + 1)
  rw [e]
  cases (im.take i).any (mt2 im[i]) <;> rfl
 have hL:∀(K i n:Nat),im.length - i=K→K<n→i≤im.length→∃ o,Zca im n im (i:Int)=some o∧(((∀ j (h:j<im.length),i≤j→((im.take j).any (mt2 im[j]))=false)→o=.inl im)∧(¬ (∀ j (h:j<im.length),i≤j→((im.take j).any (mt2 im[j]))=false)→o=.inr (false,0))):=by
  intro K
  induction K with
  | zero=>
   intro i n hK hn hi
   cases n with
   | zero=>omega
   | succ n=>
   rw [Zca,if_neg (by simp; omega)]
   exact⟨_,rfl,fun _=>rfl,fun h=>absurd (fun j h1 h2=>by omega) h⟩
  | succ K ih=>
   intro i n hK hn hi
   cases n with
   | zero=>omega
   | succ n=>
   have hil:i<im.length:=by omega
   rw [Zca,if_pos (by simp; omega),if_pos ⟨by omega,by omega,by omega⟩,h3 i hil]
   simp only [Option.bind_some]
   by_cases hc:((im.take i).any (mt2 im[i]))=true
   ·rw [if_pos hc]
    refine⟨_,rfl,fun h=>?_,fun _=>rfl⟩
    have:=h i hil (Nat.le_refl _)
    rw [this] at hc
    cases hc
   ·rw [if_neg hc]
    simp only
    rw [wsucc (by omega)]
    obtain⟨o,o1,o2,o3⟩:=ih (i + 1) n (by omega) (by omega) (by omega)
    refine⟨o,o1,fun h=>o2 fun j hj h1=>h j hj (by omega),fun h=>o3 fun h2=>h fun j hj h1=>?_⟩
    rcases Nat.eq_or_lt_of_le h1 with h4 | h4
    ·subst h4; simpa using hc
    ·exact h2 j hj (by omega)
 obtain⟨o,o1,o2,o3⟩:=hL im.length 0 fuel (by omega) (by unfold fuel; omega) (by omega)
 have key:(∀ j (h:j<im.length),0≤j→((im.take j).any (mt2 im[j]))=false) ↔ Apart im:=by
  unfold Apart
  rw [List.pairwise_iff_getElem]
  constructor
  ·intro h i j hi hj hij hm
   have:=h j hj (by omega)
   rw [List.any_eq_false] at this
   refine this im[i] ?_ ((Zyh (hv _ (List.getElem_mem hj)) (hv _ (List.getElem_mem hi))).2 (Zj7 hm))
   exact List.mem_take_iff_getElem.2 ⟨i,by omega,rfl⟩
  ·intro h j hj _
   rw [List.any_eq_false]
   intro x hx hm
   obtain⟨i,hi,rfl⟩:=List.mem_take_iff_getElem.1 hx
   exact h i j (by omega) hj (by omega) (Zj7 ((Zyh (hv _ (List.getElem_mem hj)) (hv _ (List.getElem_mem _))).1 hm))
 rw [key] at o2 o3
 exact⟨o,o1,o2,o3⟩
theorem Z11 {l:List Zk} {r3:List (List Bx) × List Bx × Zp} (hl:l.length≤100000) (hr:r3.1.length=l.length) (hv:∀ q∈r3.1,VS q) (hiv:∀ x∈imgsR l r3.1,VS x):∀(K i n:Nat) (acc:List (List Bx)),l.length - i=K→K<n→i≤l.length→acc.length≤10 + i→(∀ x∈acc,VS x) →
  ∃ o,Zc0 l r3 n acc (i:Int)=some o∧(((∀ x∈imgsR (l.drop i) (r3.1.drop i),∀ y∈acc,¬ meets y x)∧Apart (imgsR (l.drop i) (r3.1.drop i))→∃ g,o=.inl g)∧(¬ ((∀ x∈imgsR (l.drop i) (r3.1.drop i),∀ y∈acc,¬ meets y x)∧Apart (imgsR (l.drop i) (r3.1.drop i)))→o=.inr (false,0))):=by
 intro K
 induction K with
 | zero=>
  intro i n acc hK hn hi ha hav
  cases n with
  | zero=>omega
  | succ n=>
  rw [Zc0,if_neg (by simp; omega),List.drop_eq_nil_of_le (show l.length≤i by omega)]
  have e0:imgsR [] (r3.1.drop i)=[]:=rfl
  rw [e0]
  exact⟨_,rfl,fun _=>⟨_,rfl⟩,fun h=>absurd ⟨fun x hx=>(by cases hx),List.Pairwise.nil⟩ h⟩
 | succ K ih=>
  intro i n acc hK hn hi ha hav
  cases n with
  | zero=>omega
  | succ n=>
  have hil:i<l.length:=by omega
  have hir:i<r3.1.length:=by omega
  have hq:=hv _ (List.getElem_mem hir)
  have hcons:imgsR (l.drop i) (r3.1.drop i)=shM l[i] r3.1[i] :: imgsR (l.drop (i + 1)) (r3.1.drop (i + 1)):=by
   rw [List.drop_eq_getElem_cons hil,List.drop_eq_getElem_cons hir]; rfl
  have hsub:∀(l:List Zk) (ps:List (List Bx)) (k:Nat),∀ x∈imgsR (l.drop k) (ps.drop k),x∈imgsR l ps:=by
   intro l
   induction l with
   | nil=>intro ps k x hx; rw [List.drop_nil] at hx; unfold imgsR at hx; cases hx
   | cons m l ih=>intro ps k x hx; cases ps with
    | nil=>
     rw [List.drop_nil] at hx
     have:∀ z:List Zk,imgsR z []=[]:=fun z=>by cases z <;> rfl
     rw [this] at hx
     cases hx
    | cons p ps=>cases k with
     | zero=>exact hx
     | succ k=>simp only [List.drop_succ_cons] at hx; unfold imgsR; exact List.mem_cons_of_mem _ (ih ps k x hx)
  have hmv:VS (shM l[i] r3.1[i]):=hiv _ (hsub l r3.1 i _ (by rw [hcons]; exact List.mem_cons_self ..))
  rw [Zc0,if_pos (by simp; omega)]
  simp only [Z1 hil,Z1 hir,Option.bind_some]
  rw [Zm7 hq.inL.len]
  simp only [Option.bind_some]
  rw [show ((r3.1[i]).map fun b=>shB b (l[i]).From (l[i]).To)=shM l[i] r3.1[i] from rfl]
  have h2:Zcb acc (shM l[i] r3.1[i]) fuel 0=some (if (acc.any fun y=>(shM l[i] r3.1[i]).any fun u=>y.any fun w=>(xB u w).2)=true then .inr (false,0) else .inl ()):=by
   rw [Zhs (L:=Zcb acc (shM l[i] r3.1[i])) acc (fun _ y=>if ((shM l[i] r3.1[i]).any fun u=>y.any fun w=>(xB u w).2)=true then some (false,(0:Int)) else none) (by omega) (fun n j hj=>by
    have hy:=hav _ (List.getElem_mem hj)
    rw [Zcb]
    simp only [show ((j:Int)<(acc.length:Int)) from by omega,decide_true,if_true,Z1 hj,Option.bind_some,wsucc (by omega:j<1000000000001)]
    rw [Z01 (by have:=hmv.len; omega) (by have:=hy.len; omega)]
    simp only [Option.bind_some]
    cases ((shM l[i] r3.1[i]).any fun u=>acc[j].any fun w=>(xB u w).2) <;> rfl) (fun n=>by rw [Zcb]; simp)]
   have e:∀(z:List (List Bx)) (k:Nat),findI (fun _ y=>if ((shM l[i] r3.1[i]).any fun u=>y.any fun w=>(xB u w).2)=true then some (false,(0:Int)) else none) k z=if (z.any fun y=>(shM l[i] r3.1[i]).any fun u=>y.any fun w=>(xB u w).2)=true then some (false,(0:Int)) else none:=by
    intro z
    induction z with
    | nil=>intro k; rfl
    | cons y z ih=>
     intro k
     by_cases h:((shM l[i] r3.1[i]).any fun u=>y.any fun w=>(xB u w).2)=true
     ·simp only [findI,if_pos h,List.any_cons,h,Bool.true_or,if_true]
     ·rw [Bool.not_eq_true] at h
      simp only [findI,List.any_cons,h,Bool.false_eq_true,if_false,Bool.false_or]
      exact ih (k + 1)
   rw [e]
   cases (acc.any fun y=>(shM l[i] r3.1[i]).any fun u=>y.any fun w=>(xB u w).2) <;> rfl
  rw [h2]
  have hany:(acc.any fun y=>(shM l[i] r3.1[i]).any fun u=>y.any fun w=>(xB u w).2)=true ↔ ∃ y∈acc,meets y (shM l[i] r3.1[i]):=by
   rw [List.any_eq_true]
   exact⟨fun⟨y,hy,h⟩=>⟨y,hy,Zj7 ((Zyi hmv (hav y hy)).1 h)⟩,fun⟨y,hy,h⟩=>⟨y,hy,(Zyi hmv (hav y hy)).2 (Zj7 h)⟩⟩
  rw [hcons]
  unfold Apart
  simp only [Option.bind_some,List.pairwise_cons,List.forall_mem_cons]
  by_cases hc:(acc.any fun y=>(shM l[i] r3.1[i]).any fun u=>y.any fun w=>(xB u w).2)=true
  ·rw [if_pos hc]
   obtain⟨y,hy,hm⟩:=hany.1 hc
   exact⟨_,rfl,fun h=>absurd hm (h.1.1 y hy),fun _=>rfl⟩
  ·rw [if_neg hc]
   have hno:∀ y∈acc,¬ meets y (shM l[i] r3.1[i]):=fun y hy hm=>hc (hany.2 ⟨y,hy,hm⟩)
   simp only
   rw [if_pos (show acc.length + [shM l[i] r3.1[i]].length≤lim by simp only [List.length_singleton]; unfold lim; omega),wsucc (by omega)]
   obtain⟨o,o1,o2,o3⟩:=ih (i + 1) n (acc++[shM l[i] r3.1[i]]) (by omega) (by omega) (by omega) (by rw [List.length_append,List.length_singleton]; omega) (fun x hx=>(List.mem_append.1 hx).elim (hav x) fun h=>by rw [List.mem_singleton] at h; rw [h]; exact hmv)
   have hiff:((∀ x∈imgsR (l.drop (i + 1)) (r3.1.drop (i + 1)),∀ y∈acc++[shM l[i] r3.1[i]],¬ meets y x)∧Apart (imgsR (l.drop (i + 1)) (r3.1.drop (i + 1)))) ↔
     (((∀ y∈acc,¬ meets y (shM l[i] r3.1[i]))∧∀ x∈imgsR (l.drop (i + 1)) (r3.1.drop (i + 1)),∀ y∈acc,¬ meets y x)∧(∀ x∈imgsR (l.drop (i + 1)) (r3.1.drop (i + 1)),¬ meets (shM l[i] r3.1[i]) x)∧List.Pairwise (fun a b=>¬ meets a b) (imgsR (l.drop (i + 1)) (r3.1.drop (i + 1)))):=by
    constructor
    ·rintro⟨h1,h2⟩
     exact⟨⟨hno,fun x hx y hy=>h1 x hx y (List.mem_append_left _ hy)⟩,fun x hx=>h1 x hx _ (List.mem_append_right _ (List.mem_singleton.2 rfl)),h2⟩
    ·rintro⟨⟨_,h1⟩,h2,h3⟩
     exact⟨fun x hx y hy=>(List.mem_append.1 hy).elim (h1 x hx y) fun h=>by rw [List.mem_singleton] at h; rw [h]; exact h2 x hx,h3⟩
   rw [hiff] at o2 o3
   exact⟨o,o1,o2,o3⟩
end Go.AM
set_option maxRecDepth 100000
namespace Go.AM
open Go
noncomputable def prt (l:List Zk) (s:List Bx):=partsR (kp false (st s)).2 (kp false (st s)).1 (l.map frm)
theorem Zth {l:List Zk} {s:List Bx} (h0:(imageA l s).2=0):(prt l s).2.2=false:=by
 unfold imageA at h0
 simp only at h0
 unfold prt
 generalize hr:partsR (kp false (st s)).2 (kp false (st s)).1 (l.map frm)=r at h0 ⊢
 generalize ho:imgR (r.2.2,[]) l r.1=o at h0
 have hfin:(uU o.1 o.2 r.2.1).2=false:=by
  cases h:(uU o.1 o.2 r.2.1).2 with
  | true=>rw [h] at h0; cases h0
  | false=>rfl
 have g1:=(kp_sem hfin).1
 have g2:(imgR (r.2.2,[]) l r.1).1=false:=by rw [ho]; exact g1
 exact Zvf _ _ _ g2
theorem Zuj (l:List Zk) (s:List Bx):(prt l s).1.length=l.length:=by unfold prt; rw [Zk2,List.length_map]
theorem prt_vs (l:List Zk) (s:List Bx):(∀ x∈(prt l s).1,VS x)∧VS (prt l s).2.1:=Zlz _ _ _ (kp_vs (st_ok s).1).1
theorem Zuk (l:List Zk) (s:List Bx):∀ i (h:i<l.length),vM l[i]=false→(prt l s).1[i]? = some []:=fun i h hv=>
 Zmt _ _ _ i (by rw [List.length_map]; exact h) (by rw [List.getElem_map,frm_v]; exact hv)
theorem Zw8 {l:List Zk} (hin:∀ m∈l,MIn m) {s:List Bx} (hf:(prt l s).2.2=false):∀ x∈imgsR l (prt l s).1,VS x:=by
 refine Zyj l _ hin (Zuj l s) (prt_vs l s).1 (fun i h hv q hq p hp hm=>?_) (Zuk l s)
 have e:(l.map frm)[i]'(by rw [List.length_map]; exact h)=(l[i]).From:=by rw [List.getElem_map]; unfold frm; rw [if_pos hv]
 have:=Zr1 (l.map frm) (kp false (st s)).2 (kp false (st s)).1 (kp_vs (st_ok s).1).1 (frm_in hin) hf i (by rw [List.length_map]; exact h) (by rw [e]; exact(Zyc hv).1) q hq p hp hm
 rw [e] at this
 exact this
noncomputable def injA (l:List Zk) (s:List Bx):Bool × Int:=
 if (imageA l s).2 ≠ 0 then (false,(imageA l s).2) else (@decide (Apart ((prt l s).2.1 :: imgsP l (prt l s).1)) (Classical.propDecidable _),0)
theorem Zyk {l:List Zk} {s:List Bx} (h0:(imageA l s).2=0):injA l s=(@decide (Apart ((prt l s).2.1 :: imgsP l (prt l s).1)) (Classical.propDecidable _),0):=by
 unfold injA; rw [if_neg (by simpa using h0)]
theorem Zw9 {l:List Zk} (hl:l.length≤1000) (hin:∀ m∈l,MIn m) {s:List Bx} (hs:InL s):Zfk l s=some (injA l s):=by
 unfold Zfk
 rw [Zw3 (by omega) hin hs]
 simp only [Option.bind_some]
 by_cases h0:(imageA l s).2=0
 ·rw [if_neg (by simp [h0]),Zyk h0,Zyd (by omega),Zuh hs]
  simp only [Option.bind_some]
  rw [Zw2 (by rw [List.length_map]; omega) (frm_in hin) (kp_vs (st_ok s).1).1]
  simp only [Option.bind_some]
  have hf:=Zth h0
  have hv:=prt_vs l s
  have hi:=Zw8 hin hf
  have hlen:=Zuj l s
  have hb:=Zuk l s
  rw [show partsR (kp false (st s)).2 (kp false (st s)).1 (l.map frm)=prt l s from rfl]
  rw [Inj_L1 (r7:=((prt l s).1,(prt l s).2.1,le (prt l s).2.2)) (by omega) hlen hv.1 [(prt l s).2.1] (by simp)]
  simp only [Option.bind_some]
  have hsub:(imgsP l (prt l s).1).length≤l.length:=by
   have:∀(l:List Zk) (ps:List (List Bx)),(imgsP l ps).length≤l.length:=by
    intro l
    induction l with
    | nil=>intro ps; unfold imgsP; simp
    | cons m l ih=>intro ps; cases ps with
     | nil=>unfold imgsP; simp
     | cons p ps=>
      have:=ih ps
      unfold imgsP
      split <;> simp <;> omega
   exact this l _
  obtain⟨o,o1,o2,o3⟩:=Inj_L2 (im:=[(prt l s).2.1]++imgsP l (prt l s).1) (by rw [List.length_append,List.length_singleton]; omega) (fun x hx=>by
   rcases List.mem_append.1 hx with h | h
   ·rw [List.mem_singleton] at h; rw [h]; exact hv.2
   ·exact hi x (Zp1 _ _ x h))
  rw [o1]
  by_cases hA:Apart ((prt l s).2.1 :: imgsP l (prt l s).1)
  ·rw [o2 hA]
   simp only [Option.bind_some,hA,decide_true]
  ·rw [o3 hA]
   simp only [Option.bind_some,hA,decide_false]
 ·rw [if_pos (by simpa using h0)]
  unfold injA
  rw [if_pos (by simpa using h0)]
theorem Zvr {l:List Zk} (hl:l.length≤1000) (hin:∀ m∈l,MIn m) {s:List Bx} (hs:InL s):Zfl l s=some (injA l s):=by
 unfold Zfl
 rw [Zve (by omega) hin hs]
 simp only [Option.bind_some]
 by_cases h0:(imageA l s).2=0
 ·rw [if_neg (by simp [h0]),Zyk h0,Zvc (by omega) hin hs]
  simp only [Option.bind_some]
  have hf:=Zth h0
  have hv:=prt_vs l s
  have hi:=Zw8 hin hf
  have hlen:=Zuj l s
  have hb:=Zuk l s
  rw [show partsR (kp false (st s)).2 (kp false (st s)).1 (l.map frm)=prt l s from rfl]
  obtain⟨o,o1,o2,o3⟩:=Z11 (l:=l) (r3:=((prt l s).1,(prt l s).2.1,⟨(prt l s).2.2⟩)) (by omega) hlen hv.1 hi l.length 0 fuel [(prt l s).2.1] (by omega) (by unfold fuel; omega) (by omega) (by simp) (fun x hx=>by rw [List.mem_singleton] at hx; rw [hx]; exact hv.2)
  rw [show ((0:Nat):Int)=0 from rfl] at o1
  rw [o1]
  simp only [List.drop_zero] at o2 o3
  obtain⟨i1,i2⟩:=Zvh l (prt l s).1 hb
  have hiff:((∀ x∈imgsR l (prt l s).1,∀ y∈[(prt l s).2.1],¬ meets y x)∧Apart (imgsR l (prt l s).1)) ↔ Apart ((prt l s).2.1 :: imgsP l (prt l s).1):=by
   unfold Apart at i1 ⊢
   rw [List.pairwise_cons,i1,i2 (prt l s).2.1]
   simp only [List.mem_singleton,forall_eq]
  rw [hiff] at o2 o3
  by_cases hA:Apart ((prt l s).2.1 :: imgsP l (prt l s).1)
  ·obtain⟨g,rfl⟩:=o2 hA
   simp only [Option.bind_some,hA,decide_true]
  ·rw [o3 hA]
   simp only [Option.bind_some,hA,decide_false]
 ·rw [if_pos (by simpa using h0)]
  unfold injA
  rw [if_pos (by simpa using h0)]
theorem Zxa {a b:List Bx} (ha:a.length≤1000000000000):Zgp a b=some (decide (a=b)):=by
 unfold Zgp; rw [Zuc ha]; rfl
theorem Zmu {l:List Zk} (hl:l.length≤1000) (hin:∀ m∈l,MIn m) {s:List Bx} (hs:InL s):Zex l s=some true:=by
 unfold Zex
 have h1:=(Zzy l s).vs.len
 have h2:=(Z10 l s).vs.len
 rw [Zw3 (by omega) hin hs,Zve (by omega) hin hs,Zxq (by omega) hin hs,Zw7 (by omega) hin hs,Zw9 hl hin hs,Zvr hl hin hs]
 simp only [Option.bind_some]
 rw [Zxa (by omega),Zxa (by omega)]
 simp only [decide_true,Option.bind_some,beq_self_eq_true,Bool.and_self,if_true]
theorem Zp2 {t:List Int} {l:List Zk} {s:List Bx} (ht:Zrf t) (hl:Zog l) (hs:Zk6 s):Zfh t l s=some true:=by
 have hsane:Zkq=some true:=rfl
 unfold Zfh
 obtain⟨t0,e0,h0⟩:=New_ok (Z1a ht)
 rw [e0]
 have key:∀(s:Zh),TOk s→Ok (Zbh fuel s 0) fun o=>∃ v,o=.inl v:=fun s hs=>by
  refine Zz7 (L:=Zbh) 3 (fun _ s=>TOk s) (by omega) (fun n s i hi e1 kk=>?_) (fun n s h=>?_) s hs
  ·rw [Zbh,if_pos (by simp; omega)]
   refine Ok.bind (Z0z true e1 (by omega) (by omega)) fun r68 ⟨m1,m2,m3⟩=>?_
   refine Ok.bind (Set_ok m3 (by omega) (by omega)) fun r70 ⟨s1,s2⟩=>?_
   rw [Zmu (by omega) m1 s1.inL]
   refine Ok.lift (Ok.lift ?_)
   refine Ok.bind (p:=fun v=>v.1=false∧TOk v.2) ?_ fun v ⟨v1,v2⟩=>?_
   ·refine Ok.ite (fun hc=>by cases hc) fun _=>?_
    refine Ok.bind (Zwg true s2 (by omega) (by omega)) fun r76 ⟨b1,b2,b3⟩=>?_
    rw [Zmu (by omega) m1 ⟨by omega,fun x hx=>(b1 x hx).1⟩]
    exact Ok.lift (Ok.ret ⟨rfl,b3⟩)
   ·refine Ok.lift ?_
    rw [v1,if_neg (by decide)]
    refine Ok.bind (p:=fun v=>v=false) ?_ fun w hw=>?_
    ·refine Ok.bind (Zy3 m1 (by omega)) fun r84 ⟨d1,d2⟩=>?_
     rw [Zmu (by omega) m1 ⟨by omega,d1⟩]
     exact Ok.lift (Ok.ret rfl)
    ·rw [hw,if_neg (by decide),wsucc (by omega)]
     exact kk _ v2
  ·rw [Zbh,if_neg (by simp)]
   exact Ok.ret ⟨s,rfl⟩
 obtain⟨o,e1,⟨v,rfl⟩⟩:=key t0 h0
 simp only [Option.bind_some,e1]
 unfold Zim Zg8
 simp only [Option.bind_some]
 by_cases h1:l.length≤4
 ·rw [if_neg (by simp; omega)]
  simp only [Option.bind_some]
  by_cases h2:s.length≤6
  ·rw [if_neg (by simp; omega),Zmu (by omega) (fun m hm=>Z12 (hl.2 m hm)) ⟨by omega,fun x hx=>Zwh (hs.2 x hx)⟩]
   simp only [Option.bind_some,if_true,hsane]
  ·rw [if_pos (by simp; omega)]
   rfl
 ·rw [if_pos (by simp; omega)]
  simp only [Option.bind_some,if_true]
end Go.AM

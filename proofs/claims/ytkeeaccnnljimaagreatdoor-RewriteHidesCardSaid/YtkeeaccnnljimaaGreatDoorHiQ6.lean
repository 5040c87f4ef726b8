/- Parts of a proof, printed short. No condition. -/
import Derived.Test.YtkeeaccnnljimaaGreatDoorHiQ5
set_option maxRecDepth 100000
namespace Go.AM
open Go
theorem Zzi {f:Nat} (h:f<5):Zi2 (f:Int)=some (topOf (f:Int)):=by
 rcases fiveN h with rfl | rfl | rfl | rfl | rfl <;> rfl
theorem topN {f:Nat} (h:f<5):0≤topOf (f:Int)∧topOf (f:Int)≤4294967295:=Z13 (by omega) (by omega)
theorem BOk.at_ {b:Bx} (h:BOk b) {f:Nat} (hf:f<5):0≤(b.get (f:Int)).Lo∧(b.get (f:Int)).Lo≤(b.get (f:Int)).Hi∧(b.get (f:Int)).Hi≤topOf (f:Int):=
 vB_get h.bin (ok_vB h) (by omega) (by omega)
structure Pts (f:Nat) (l:List Bx) (ps:List Int):Prop where
 asc:ps.Pairwise (·<·)
 h0:∃ tl,ps=0 :: tl
 hl:ps.getLast? = some (topOf (f:Int) + 1)
 cut:∀ b∈l,(b.get (f:Int)).Lo∈ps∧(b.get (f:Int)).Hi + 1∈ps
 len:ps.length≤2 * l.length + 2
theorem Zxy {ps:List Int} (ha:ps.Pairwise (·<·)) {z:Int} (hz:z∈ps) (hb:∀ x∈ps,z≤x):∃ tl,ps=z :: tl:=by
 cases ps with
 | nil=>cases hz
 | cons p ps=>
  rcases List.mem_cons.1 hz with rfl | h
  ·exact⟨ps,rfl⟩
  ·have:=(List.pairwise_cons.1 ha).1 z h
   have:=hb p (List.mem_cons_self ..)
   omega
theorem Z15 {ps:List Int} (ha:ps.Pairwise (·<·)) {z:Int} (hz:z∈ps) (hb:∀ x∈ps,x≤z):ps.getLast? = some z:=by
 rcases List.eq_nil_or_concat ps with rfl | ⟨qs,p,rfl⟩
 ·cases hz
 ·rw [List.concat_eq_append] at *
  rw [List.getLast?_concat]
  rcases List.mem_append.1 hz with h | h
  ·have:=(List.pairwise_append.1 ha).2.2 z h p (List.mem_singleton.2 rfl)
   have:=hb p (List.mem_append_right _ (List.mem_singleton.2 rfl))
   omega
  ·rw [List.mem_singleton] at h; rw [h]
def rawC (f:Int) (l:List Bx):List Int:=l.flatMap fun b=>[(b.get f).Lo,(b.get f).Hi + 1]
theorem Zxz (f:Int) (l:List Bx):(rawC f l).length=2 * l.length:=by
 induction l with
 | nil=>rfl
 | cons b l ih=>unfold rawC at *; rw [List.flatMap_cons,List.length_append,ih]; simp; omega
theorem Zx0 {f:Nat} (hf:f<5) {l:List Bx} (hl:l.length≤400000) (hin:∀ b∈l,BOk b) (acc:List Int) (ha:acc.length≤1000000):Zdb (f:Int) l fuel acc 0=some (acc++rawC f l):=by
 have:=Zch (L:=Zdb (f:Int) l) l (fun s _ x=>s++[(x.get (f:Int)).Lo,(x.get (f:Int)).Hi + 1]) id (fun i s=>s.length≤1000000 + 2 * i) (by omega) (fun n s i hi hs=>by
  have hb:=(hin _ (List.getElem_mem hi)).at_ hf
  have ht:=topN hf
  rw [Zdb]
  simp only [show ((i:Int)<(l.length:Int)) from by omega,decide_true,if_true,Z5 hi,Option.bind_some,wsucc (by omega:i<1000000000001),List.length_cons,List.length_nil]
  rw [if_pos ⟨by omega,by omega⟩,if_pos ⟨by omega,by omega⟩,if_pos (show s.length + (0 + 1 + 1)≤lim by unfold lim; omega)]
  rw [wu64 (x:=((l[i]).get (f:Int)).Lo) (by omega) (by omega),wu64 (x:=((l[i]).get (f:Int)).Hi) (by omega) (by omega),wu64 (by omega) (by omega)]
  exact⟨rfl,by simp; omega⟩) (fun n s hs=>by rw [Zdb]; simp) acc (by omega)
 rw [this.1,Zug]
 rfl
theorem Z16 {f:Nat} (hf:f<5) {a b:List Bx} (hl:a.length + b.length≤400000) (ha:∀ x∈a,BOk x) (hb:∀ x∈b,BOk x) (acc:List Int) (hacc:acc.length≤2):Zdc (f:Int) [a,b] fuel acc 0=some (acc++rawC f (a++b)):=by
 obtain⟨m,hm⟩:=Zoy 2 (by omega)
 rw [hm]
 have i0:idx [a,b] (0:Int)=some a:=rfl
 have i1:idx [a,b] (0 + 1:Int)=some b:=rfl
 rw [Zdc,if_pos (by simp),i0]
 simp only [Option.bind_some]
 rw [Zx0 hf (by omega) ha acc (by omega)]
 simp only [Option.bind_some]
 rw [wi64 (by omega) (by omega),Zdc,if_pos (by simp),i1]
 simp only [Option.bind_some]
 rw [Zx0 hf (by omega) hb _ (by rw [List.length_append,Zxz]; omega)]
 simp only [Option.bind_some]
 rw [wi64 (by omega) (by omega),Zdc,if_neg (by simp)]
 unfold rawC
 rw [List.flatMap_append,List.append_assoc]
theorem Z3a {f:Nat} (hf:f<5) {a b:List Bx} (hl:a.length + b.length≤400000) (ha:∀ x∈a,BOk x) (hb:∀ x∈b,BOk x):Ok (Zec (f:Int) [a,b]) (Pts f (a++b)):=by
 have ht:=topN hf
 unfold Zec
 rw [Zzi hf]
 simp only [Option.bind_some]
 rw [wu64 (x:=topOf (f:Int)) (by omega) (by omega),wu64 (by omega) (by omega),Z16 hf hl ha hb _ (by simp)]
 simp only [Option.bind_some]
 rw [if_pos (by simp)]
 have hlen:([0,topOf (f:Int) + 1]++rawC (f:Int) (a++b)).length=2 + 2 * (a++b).length:=by rw [List.length_append,Zxz]; rfl
 have hab:(a++b).length=a.length + b.length:=List.length_append
 generalize hr:[0,topOf (f:Int) + 1]++rawC (f:Int) (a++b)=raw at hlen
 rw [Z27 (by omega)]
 simp only [Option.bind_some]
 rw [if_pos (List.length_mergeSort _)]
 have hms:(raw.mergeSort (fun x y=>decide (x≤y))).length=raw.length:=List.length_mergeSort _
 obtain⟨w,v,e,g1,g2,g3⟩:=Zz8 (l:=raw.mergeSort (fun x y=>decide (x≤y))) (by omega)
 rw [e]
 have hb2:handB (raw.mergeSort (fun x y=>decide (x≤y))) (some (w,v)) Zc1=some (w,v):=by
  cases hq:raw.mergeSort (fun x y=>decide (x≤y)) with
  | nil=>rw [hq] at hms; simp at hms; omega
  | cons x l=>
   rw [hq] at g1 g2
   simp only [handB,Option.bind_some]
   rw [if_pos ⟨g1,by omega⟩]
 rw [hb2]
 simp only [Option.bind_some,g3]
 have hmem:∀ x,x∈dd (raw.mergeSort (fun x y=>decide (x≤y))) ↔ x∈raw:=fun x=>by rw [dd_mem,List.mem_mergeSort]
 have hasc:(dd (raw.mergeSort (fun x y=>decide (x≤y)))).Pairwise (·<·):=by
  refine Z0z _ ?_
  have:=List.pairwise_mergeSort (le:=fun x y:Int=>decide (x≤y)) (fun a b c h1 h2=>by simp only [decide_eq_true_eq] at *; omega) (fun a b=>by simp only [Bool.or_eq_true,decide_eq_true_eq]; omega) raw
  exact this.imp fun h=>by simpa using h
 have hrng:∀ x∈raw,0≤x∧x≤topOf (f:Int) + 1:=by
  intro x hx
  rw [← hr] at hx
  simp only [List.mem_append,List.mem_cons,List.not_mem_nil,or_false,rawC,List.mem_flatMap] at hx
  rcases hx with (rfl | rfl) | ⟨b',hb',rfl | rfl⟩
  ·omega
  ·omega
  ·have:=(hb'.elim (fun h=>ha b' h) (fun h=>hb b' h)).at_ hf; omega
  ·have:=(hb'.elim (fun h=>ha b' h) (fun h=>hb b' h)).at_ hf; omega
 refine Ok.ret ⟨hasc,Zxy hasc ((hmem 0).2 (by rw [← hr]; simp)) fun x hx=>(hrng x ((hmem x).1 hx)).1,Z15 hasc ((hmem _).2 (by rw [← hr]; simp)) fun x hx=>(hrng x ((hmem x).1 hx)).2,fun x hx=>⟨(hmem _).2 ?_,(hmem _).2 ?_⟩,?_⟩
 ·rw [← hr]; exact List.mem_append_right _ (List.mem_flatMap.2 ⟨x,hx,by simp⟩)
 ·rw [← hr]; exact List.mem_append_right _ (List.mem_flatMap.2 ⟨x,hx,by simp⟩)
 ·have:=dd_len (raw.mergeSort (fun x y=>decide (x≤y)))
  omega
theorem Z00 {f:Nat} (hf:f<5) {a b:List Bx} (hl:a.length + b.length≤400000):Zhd a b (f:Int)=some ((a++b).map fun x=>x.get (f:Int)):=by
 unfold Zhd
 have h1:=Zch (L:=Zdy a (f:Int)) a (fun s _ x=>s++[x.get (f:Int)]) id (fun i s=>s.length≤i) (by omega) (fun n s i hi hs=>by
  rw [Zdy]
  simp only [show ((i:Int)<(a.length:Int)) from by omega,decide_true,if_true,Z5 hi,Option.bind_some,wsucc (by omega:i<1000000000001),List.length_singleton]
  rw [if_pos ⟨by omega,by omega⟩,if_pos (show s.length + 1≤lim by unfold lim; omega)]
  exact⟨rfl,by simp; omega⟩) (fun n s hs=>by rw [Zdy]; simp) [] (Nat.le_refl _)
 rw [h1.1,Zih]
 simp only [id,List.nil_append,Option.bind_some]
 have h2:=Zch (L:=Zdz b (f:Int)) b (fun s _ x=>s++[x.get (f:Int)]) id (fun i s=>s.length≤a.length + i) (by omega) (fun n s i hi hs=>by
  rw [Zdz]
  simp only [show ((i:Int)<(b.length:Int)) from by omega,decide_true,if_true,Z5 hi,Option.bind_some,wsucc (by omega:i<1000000000001),List.length_singleton]
  rw [if_pos ⟨by omega,by omega⟩,if_pos (show s.length + 1≤lim by unfold lim; omega)]
  exact⟨rfl,by simp; omega⟩) (fun n s hs=>by rw [Zdz]; simp) (a.map fun x=>x.get (f:Int)) (by simp)
 rw [h2.1,Zih,List.map_append]
 rfl
theorem Z3b {l:List Int} {v:Int} (hl:l.length≤1000000):∀(k i n:Nat),l.length - i=k→k<n→i≤l.length→(∀ x∈l.take i,x<v)→∃ j,Zd0 l v n (i:Int)=some ((j:Nat):Int)∧j≤l.length∧(∀ x∈l.take j,x<v)∧∀ h:j<l.length,v≤l[j]:=by
 intro k
 induction k with
 | zero=>
  intro i n hk hn hi hx
  cases n with
  | zero=>omega
  | succ n=>
  refine⟨i,?_,hi,hx,fun h=>by omega⟩
  rw [Zd0]
  have:decide ((i:Int)<(l.length:Int))=false:=by simp; omega
  rw [this]; rfl
 | succ k ih=>
  intro i n hk hn hi hx
  cases n with
  | zero=>omega
  | succ n=>
  have h1:i<l.length:=by omega
  rw [Zd0]
  have:decide ((i:Int)<(l.length:Int))=true:=by simp; omega
  rw [this]
  simp only [Option.bind_some,if_true,Z5 h1]
  by_cases hlt:l[i]<v
  ·rw [if_pos (decide_eq_true hlt),wsucc (by omega)]
   refine ih (i + 1) n (by omega) (by omega) (by omega) fun x hx'=>?_
   rw [List.take_add_one,List.getElem?_eq_getElem h1] at hx'
   rcases List.mem_append.1 hx' with h | h
   ·exact hx x h
   ·simp at h; rw [h]; exact hlt
  ·rw [if_neg (by simpa using hlt)]
   exact⟨i,rfl,hi,hx,fun _=>by omega⟩
structure InsP (l:List Int) (v top:Int) (r:List Int):Prop where
 asc:r.Pairwise (·<·)
 mem:∀ x,x∈r ↔ x∈l∨(x=v∧v≤top)
 len:r.length≤l.length + 1
theorem Zwc {l:List Int} {v top:Int} (hl:l.length≤1000000) (ha:l.Pairwise (·<·)) (h0:0≤top) (h1:top<4294967296):Ok (Zf5 l v top) (InsP l v top):=by
 unfold Zf5
 rw [wu64 h0 (by omega)]
 by_cases hv:v > top
 ·rw [if_pos (decide_eq_true hv)]
  exact Ok.ret ⟨ha,fun x=>⟨Or.inl,fun h=>h.elim id fun h=>by omega⟩,by omega⟩
 ·rw [if_neg (by simpa using hv)]
  obtain⟨j,e,g1,g2,g3⟩:=Z3b (v:=v) hl l.length 0 fuel (by omega) (by unfold fuel; omega) (by omega) (fun x h=>(by cases h))
  rw [show ((0:Nat):Int)=0 from rfl] at e
  rw [e]
  simp only [Option.bind_some]
  have tail:∀ x∈l.drop j,v≤x:=by
   intro x hx
   by_cases hj:j<l.length
   ·rw [List.drop_eq_getElem_cons hj] at hx
    have hp:=ha.sublist (List.drop_sublist j l)
    rw [List.drop_eq_getElem_cons hj] at hp
    have:=g3 hj
    rcases List.mem_cons.1 hx with rfl | hx
    ·exact this
    ·have:=(List.pairwise_cons.1 hp).1 x hx; omega
   ·rw [List.drop_eq_nil_of_le (by omega)] at hx; cases hx
  have fin:(¬ ∃ h:j<l.length,l[j]=v)→Ok (if 0≤(0:Int)∧(0:Int)≤(j:Int)∧(j:Int)≤(List.length l:Int) then
    if List.length ([]:(List Int)) + List.length (List.drop (Int.toNat (0:Int)) (List.take (Int.toNat (j:Int)) l))≤lim then
    if List.length (([]:(List Int))++(List.drop (Int.toNat (0:Int)) (List.take (Int.toNat (j:Int)) l))) + List.length [v]≤lim then
    if 0≤(j:Int)∧(j:Int)≤(List.length l:Int)∧(List.length l:Int)≤(List.length l:Int) then
    if List.length ((([]:(List Int))++(List.drop (Int.toNat (0:Int)) (List.take (Int.toNat (j:Int)) l)))++[v]) + List.length (List.drop (Int.toNat (j:Int)) (List.take (Int.toNat (List.length l:Int)) l))≤lim then
    some (((([]:(List Int))++(List.drop (Int.toNat (0:Int)) (List.take (Int.toNat (j:Int)) l)))++[v])++(List.drop (Int.toNat (j:Int)) (List.take (Int.toNat (List.length l:Int)) l)))
    else none
    else none
    else none
    else none
    else none) (InsP l v top):=by
   intro hne
   have e1:List.drop (Int.toNat (0:Int)) (List.take (Int.toNat (j:Int)) l)=l.take j:=rfl
   have e2:List.drop (Int.toNat (j:Int)) (List.take (Int.toNat (List.length l:Int)) l)=l.drop j:=by rw [Int.toNat_natCast,Int.toNat_natCast,List.take_length]
   rw [e1,e2,List.nil_append]
   have l1:(l.take j).length=j:=by rw [List.length_take]; omega
   have l2:(l.drop j).length=l.length - j:=List.length_drop
   refine Ok.chk ⟨by omega,by omega,by omega⟩ (Ok.chk ?_ (Ok.chk ?_ (Ok.chk ⟨by omega,by omega,by omega⟩ (Ok.chk ?_ (Ok.ret ⟨?_,fun x=>?_,?_⟩)))))
   ·rw [l1]; unfold lim; simp; omega
   ·rw [l1]; unfold lim; simp; omega
   ·rw [List.length_append,l1,l2]; unfold lim; simp; omega
   ·have hp1:=ha.sublist (List.take_sublist j l)
    have hp2:=ha.sublist (List.drop_sublist j l)
    have hlt:∀ x∈l.drop j,v<x:=by
     intro x hx
     have:=tail x hx
     rcases Int.lt_or_eq_of_le this with h | h
     ·exact h
     ·exfalso
      subst h
      by_cases hj:j<l.length
      ·have hv:=g3 hj
       rw [List.drop_eq_getElem_cons hj] at hx hp2
       rcases List.mem_cons.1 hx with h | h
       ·exact hne ⟨hj,h.symm⟩
       ·have:=(List.pairwise_cons.1 hp2).1 _ h; omega
      ·rw [List.drop_eq_nil_of_le (by omega)] at hx; cases hx
    rw [List.append_assoc,List.pairwise_append]
    refine⟨hp1,List.pairwise_cons.2 ⟨hlt,hp2⟩,fun x hx y hy=>?_⟩
    have:=g2 x hx
    rcases List.mem_cons.1 hy with rfl | hy
    ·exact this
    ·have:=hlt y hy; omega
   ·have hm:x∈l ↔ x∈l.take j∨x∈l.drop j:=by rw [← List.mem_append,List.take_append_drop]
    simp only [List.mem_append,List.mem_cons,List.not_mem_nil,or_false,hm]
    constructor
    ·rintro((h | h) | h)
     ·exact Or.inl (Or.inl h)
     ·exact Or.inr ⟨h,by omega⟩
     ·exact Or.inl (Or.inr h)
    ·rintro((h | h) | h)
     ·exact Or.inl (Or.inl h)
     ·exact Or.inr h
     ·exact Or.inl (Or.inr h.1)
   ·rw [List.length_append,List.length_append,l1,l2]; simp; omega
  by_cases hj:j<l.length
  ·have:decide ((j:Int)<(l.length:Int))=true:=by simp; omega
   rw [this]
   simp only [if_true,Z5 hj,Option.bind_some]
   by_cases he:l[j]=v
   ·rw [if_pos (by simpa using he)]
    refine Ok.ret ⟨ha,fun x=>⟨Or.inl,fun h=>h.elim id fun h=>?_⟩,by omega⟩
    rw [h.1,← he]; exact List.getElem_mem hj
   ·rw [if_neg (by simpa using he)]
    exact fin fun⟨_,h⟩=>he h
  ·have:decide ((j:Int)<(l.length:Int))=false:=by simp; omega
   rw [this]
   simp only [Bool.false_eq_true,if_false,Option.bind_some]
   exact fin fun⟨h,_⟩=>hj h
structure StP (rs:List Zb) (top:Int) (r:List Int):Prop where
 asc:r.Pairwise (·<·)
 z:0∈r
 rng:∀ x∈r,0≤x∧x≤top
 cut:∀ y∈rs,y.Lo∈r∧(y.Hi + 1≤top→y.Hi + 1∈r)
 len:r.length≤2 * rs.length + 1
theorem Z01 {rs:List Zb} {top:Int} (hl:rs.length≤400000) (h0:0≤top) (h1:top<4294967296) (hr:∀ r∈rs,0≤r.Lo∧r.Lo≤r.Hi∧r.Hi≤top):Ok (Zhe rs top) (StP rs top):=by
 unfold Zhe
 refine Ok.bind (p:=StP rs top) ?_ fun v hv=>Ok.ret hv
 refine Zze (L:=Zd1 rs top) rs (fun i s=>StP (rs.take i) top s) (by omega) (fun n s i hi hs k=>?_) (fun n s hs=>?_) _ ?_
 ·rw [Zd1]
  have hy:=hr _ (List.getElem_mem hi)
  have ll:(rs.take i).length=i:=by rw [List.length_take]; omega
  have hsl:=hs.len
  simp only [show ((i:Int)<(rs.length:Int)) from by omega,decide_true,if_true,Z5 hi,Option.bind_some,wsucc (by omega:i<1000000000001)]
  rw [if_pos (decide_eq_true hy.2.1),wu64 (x:=(rs[i]).Lo) (by omega) (by omega),wu64 (x:=(rs[i]).Hi) (by omega) (by omega),wu64 (by omega) (by omega)]
  refine Ok.bind (p:=StP (rs.take (i + 1)) top) ?_ fun v hv=>k v hv
  refine Ok.bind (Zwc (by omega) hs.asc h0 h1) fun r1 g1=>Ok.bind (Zwc (by have:=g1.len; omega) g1.asc h0 h1) fun r2 g2=>Ok.ret ⟨g2.asc,?_,fun x hx=>?_,fun y hy'=>?_,?_⟩
  ·exact(g2.mem 0).2 (Or.inl ((g1.mem 0).2 (Or.inl hs.z)))
  ·rcases (g2.mem x).1 hx with h | h
   ·rcases (g1.mem x).1 h with h | h
    ·exact hs.rng x h
    ·omega
   ·omega
  ·rw [List.take_add_one,List.getElem?_eq_getElem hi] at hy'
   rcases List.mem_append.1 hy' with h | h
   ·have:=hs.cut y h
    exact⟨(g2.mem _).2 (Or.inl ((g1.mem _).2 (Or.inl this.1))),fun hh=>(g2.mem _).2 (Or.inl ((g1.mem _).2 (Or.inl (this.2 hh))))⟩
   ·have h:y=rs[i]:=by simpa using h
    subst h
    exact⟨(g2.mem _).2 (Or.inl ((g1.mem _).2 (Or.inr ⟨rfl,by omega⟩))),fun hh=>(g2.mem _).2 (Or.inr ⟨rfl,hh⟩)⟩
  ·have:=g1.len
   have:=g2.len
   have:(rs.take (i + 1)).length=i + 1:=by rw [List.length_take]; omega
   omega
 ·rw [Zd1,if_neg (by simp)]
  rw [List.take_length] at hs
  exact Ok.ret hs
 ·exact⟨List.pairwise_singleton ..,List.mem_singleton.2 rfl,fun x hx=>by rw [List.mem_singleton] at hx; omega,fun y hy=>(by cases hy),by simp⟩
theorem Zz9 {f:Nat} (hf:f<5) {l:List Bx} (hb:∀ x∈l,BOk x) {ss:List Int} (h:StP (l.map fun x=>x.get (f:Int)) (topOf (f:Int)) ss):Pts f l (ss++[topOf (f:Int) + 1]):=by
 have ht:=topN hf
 refine⟨List.pairwise_append.2 ⟨h.asc,List.pairwise_singleton ..,fun x hx y hy=>?_⟩,?_,List.getLast?_concat,fun b hb'=>?_,?_⟩
 ·rw [List.mem_singleton] at hy
  have:=h.rng x hx
  omega
 ·obtain⟨tl,e⟩:=Zxy h.asc h.z fun x hx=>(h.rng x hx).1
  exact⟨tl++[topOf (f:Int) + 1],by rw [e]; rfl⟩
 ·have hr:=(hb b hb').at_ hf
  have hc:=h.cut (b.get (f:Int)) (List.mem_map.2 ⟨b,hb',rfl⟩)
  refine⟨List.mem_append_left _ hc.1,?_⟩
  by_cases hh:(b.get (f:Int)).Hi + 1≤topOf (f:Int)
  ·exact List.mem_append_left _ (hc.2 hh)
  ·refine List.mem_append_right _ (List.mem_singleton.2 ?_)
   omega
 ·have:=h.len
  rw [List.length_map] at this
  rw [List.length_append,List.length_singleton]; omega
end Go.AM
set_option maxRecDepth 100000
namespace Go.AM
open Go
abbrev RL:=List Zb
theorem CF_len:∀(ts:List Int) {l:List RL},CF ts l→∀ b∈l,b.length=ts.length
 | [],l,h,b,hb=>by
  rcases h with rfl | rfl
  ·cases hb
  ·rw [List.mem_singleton] at hb; rw [hb]; rfl
 | t :: ts,l,⟨c,h1,h2,h3⟩,b,hb=>by
  subst h1
  obtain⟨x,hx,hb⟩:=List.mem_flatMap.1 hb
  obtain⟨b',hb',rfl⟩:=List.mem_map.1 hb
  rw [List.length_cons,List.length_cons,CF_len ts (h3 x hx) b' hb']
theorem Ord.len {t:Int}:∀ {c:List Cell},Ord t c→c.length≤(flt c).length
 | [],_=>Nat.le_refl _
 | x :: c,h=>by
  have hx:=(h.ok x (List.mem_cons_self ..)).2.2.2
  have:=Ord.len h.tail
  rw [Zh3,List.length_append,List.length_map,List.length_cons]
  have:0<x.2.length:=List.length_pos_iff.2 hx
  omega
theorem lk_le (c:List Cell) {t:Int} (h:Ord t c) (v:Int):(lk c v).length≤(flt c).length:=by
 by_cases hv:lk c v=[]
 ·rw [hv]; simp
 ·obtain⟨x,hx,h1,h2⟩:=Zj6 hv
  rw [lk_mem h hx h1 h2]
  obtain⟨a,b,rfl⟩:=List.append_of_mem hx
  rw [Zfd,Zh3,List.length_append,List.length_append,List.length_map]
  omega
theorem Znu {f:Nat} (h:f≤5) {l l':List RL} (hl:∀ b∈l,b.length=5 - f) (hl':∀ b∈l',b.length=5 - f):l.map (pad f)=l'.map (pad f) ↔ l=l':=by
 constructor
 ·intro e
  have:=congrArg (List.map (sf f)) e
  rw [List.map_map,List.map_map] at this
  have h1:∀ {m:List RL},(∀ b∈m,b.length=5 - f)→m.map (sf f ∘ pad f)=m:=fun {m} hm=>by
   conv=>rhs; rw [← List.map_id m]
   exact List.map_congr_left fun b hb=>sf_pad h (hm b hb)
  rw [h1 hl,h1 hl'] at this
  exact this
 ·rintro rfl; rfl
def gr1 (f:Nat) (x:Cell):Zg:=⟨x.1,x.2.map (pad (f + 1))⟩
def gr (f:Nat) (c:List Cell):List Zg:=c.map (gr1 f)
theorem gr_len (f:Nat) (c:List Cell):(gr f c).length=c.length:=List.length_map _
theorem Zrb (f:Nat) (d:List Cell) (y:Cell):gr f (d++[y])=gr f d++[gr1 f y]:=by unfold gr; rw [List.map_append]; rfl
theorem Z17 {α:Type} (l:List α) (x:α) (h:l.length≤1000000000):idx (l++[x]) (IntKind.wrap .i64 (((l++[x]).length:Int) - (1:Int)))=some x:=by
 rw [List.length_append,List.length_singleton,wi64 (by omega) (by omega),show ((l.length + 1:Nat):Int) - 1=((l.length:Nat):Int) by omega,Z5 (by simp)]
 simp
theorem Z18 {α:Type} (l:List α) (x y:α) (h:l.length≤1000000000):(l++[x]).set (Int.toNat (IntKind.wrap .i64 (((l++[x]).length:Int) - (1:Int)))) y=l++[y]:=by
 rw [List.length_append,List.length_singleton,wi64 (by omega) (by omega),show (((l.length + 1:Nat):Int) - 1).toNat=l.length by omega,List.set_append_right _ _ (Nat.le_refl _),Nat.sub_self]
 rfl
def capd (m:Nat) (f:Nat) (l:List RL):List Bx × Bool:=if l.length≤m then (l.map (pad f),true) else ([],false)
theorem Zwd (c:List Cell) (lo hi:Int) (rest:List RL):rest.length≤(flt (joinC c lo hi rest)).length:=by
 unfold joinC
 split
 ·rename_i h; rw [h]; simp
 ·split
  ·split
   ·rw [Zfd,List.length_append,Zhs]; omega
   ·rw [Zfd,List.length_append,Zhs]; omega
  ·rw [Zfd,List.length_append,Zhs]; omega
theorem Zx1 {f:Nat} (hf:f<5) {a b:List Bx} (ha:a.length≤2000000000) (hb:b.length≤2000000000) {m:Nat} (hm:m≤100000)
  {z0:Int→List Bx→List Bx→Int→Option (List Bx × Bool)} {ps:List Int} (hps:ps.length≤1000000) {g:Int→List RL} (hg:∀ v,∀ b∈g v,b.length=5 - (f + 1))
  (hz:∀ v,0≤v→v≤topOf (f:Int)→z0 ((f + 1:Nat):Int) (cov a f v) (cov b f v) (m:Int)=some (capd m (f + 1) (g v))) :
  ∀(rem:List Int) (p:Int) (i n:Nat) (c:List Cell),ps.drop i=p :: rem→rem.length<n→Upto g p c→Steps g (p :: rem)→0≤p→(∀ x∈p :: rem,x≤topOf (f:Int) + 1)→(flt c).length≤m →
  Z0 (f:Int) a b (m:Int) z0 ps n (gr f c) ((flt c).length:Int) (i:Int) =
   some (if (flt (runC g c (p :: rem))).length≤m then .inl (gr f (runC g c (p :: rem)),((flt (runC g c (p :: rem))).length:Int)) else .inr ([],false)):=by
 intro rem
 induction rem with
 | nil=>
  intro p i n c hd hn hu hs hp ht hc
  cases n with
  | zero=>simp at hn
  | succ n=>
  have hi:ps.length=i + 1:=by
   have h1:=congrArg List.length hd
   rw [List.length_drop] at h1
   simp at h1; omega
  rw [Z0,wsucc (by omega),if_neg (by simp; omega)]
  unfold runC
  rw [if_pos hc]
 | cons q rem ih=>
  intro p i n c hd hn hu hs hp ht hc
  cases n with
  | zero=>simp at hn
  | succ n=>
  obtain⟨hpq,hgc,hs'⟩:=hs
  have htop:=topN hf
  have hqt:=ht q (by simp)
  have hpt:p≤topOf (f:Int):=by omega
  have hlen:i + 2≤ps.length:=by
   have h1:=congrArg List.length hd
   rw [List.length_drop] at h1
   simp at h1; omega
  have gi:∀ j,(ps.drop i)[j]? = ps[i + j]?:=fun j=>List.getElem?_drop
  have h0:idx ps (i:Int)=some p:=by
   have h1:=gi 0
   rw [hd,Nat.add_zero] at h1
   simp only [List.getElem?_cons_zero] at h1
   rw [Z5 (by omega),← List.getElem?_eq_getElem,← h1]
  have h1:idx ps ((i + 1:Nat):Int)=some q:=by
   have h1:=gi 1
   rw [hd] at h1
   simp only [List.getElem?_cons_succ,List.getElem?_cons_zero] at h1
   rw [Z5 (by omega),← List.getElem?_eq_getElem,← h1]
  have hd':ps.drop (i + 1)=q :: rem:=by rw [← List.drop_drop,hd]; rfl
  have e1:IntKind.wrap .u32 p=p:=wu32 hp (by omega)
  have e2:IntKind.wrap .u32 (IntKind.wrap .u64 (q - (1:Int)))=q - 1:=by rw [wu64 (by omega) (by omega),wu32 (by omega) (by omega)]
  have hu':=hu.step hp hpq hgc
  have key:=ih q (i + 1) n (joinC c p (q - 1) (g p)) hd' (by simp at hn; omega) hu' hs' (by omega) (fun x hx=>ht x (List.mem_cons_of_mem _ hx))
  have hrun:runC g c (p :: q :: rem)=runC g (joinC c p (q - 1) (g p)) (q :: rem):=rfl
  have hfin:=Zm7 g (q :: rem) (joinC c p (q - 1) (g p))
  have hjr:=Zwd c p (q - 1) (g p)
  have hcl:=hu.ord.len
  rw [hrun]
  rw [Z0,wsucc (by omega),if_pos (by simp; omega),h0,h1]
  simp only [Option.bind_some,e1,e2]
  rw [Zr5 ha (by omega) (by omega),Zr5 hb (by omega) (by omega)]
  simp only [Option.bind_some]
  rw [wsucc (i:=f) (by omega),hz p hp hpt]
  simp only [Option.bind_some,capd]
  by_cases hgm:(g p).length≤m
  ·rw [if_pos hgm]
   simp only [Bool.not_true,Bool.false_eq_true,if_false,List.length_map]
   by_cases hg0:g p=[]
   ·have ej:joinC c p (q - 1) (g p)=c:=by unfold joinC; rw [if_pos hg0]
    rw [ej] at key ⊢
    rw [hg0]
    simp only [List.length_nil,Int.natCast_zero,beq_self_eq_true,if_true,Option.bind_some]
    exact key hc
   ·have hgl:0<(g p).length:=List.length_pos_iff.2 hg0
    rw [if_neg (show ¬ (((g p).length:Int) == (0:Int))=true by simp [hg0])]
    rcases List.eq_nil_or_concat c with rfl | ⟨d,y,rfl⟩
    ·
     have ej:joinC [] p (q - 1) (g p)=[(⟨p,q - 1⟩,g p)]:=by unfold joinC; rw [if_neg hg0]; rfl
     rw [ej] at key hfin ⊢
     rw [Zhs] at key hfin
     have e3:IntKind.wrap .i64 (((flt []).length:Int) + ((g p).length:Int))=((g p).length:Int):=by
      rw [show (flt []).length=0 from rfl,wi64 (by omega) (by omega)]; omega
     simp only [show gr f []=[] from rfl,List.length_nil,Int.natCast_zero,gt_iff_lt,Int.lt_irrefl,decide_false,Bool.false_eq_true,if_false,Option.bind_some,List.length_singleton,Nat.zero_add]
     rw [if_pos (show 1≤lim by unfold lim; omega)]
     simp only [show (flt []).length=0 from rfl,Int.natCast_zero] at e3 ⊢
     rw [e3,if_neg (show ¬ decide ((m:Int)<((g p).length:Int))=true by simp; omega)]
     simp only [Option.bind_some,List.nil_append]
     exact key hgm
    ·rw [List.concat_eq_append] at *
     have hgrl:(gr f d).length≤1000000000:=by rw [gr_len]; rw [List.length_append] at hcl; omega
     have hyo:=hu.ord.ok y (List.mem_append_right _ (List.mem_singleton.2 rfl))
     have hyg:∀ b∈y.2,b.length=5 - (f + 1):=by
      have h2:=hu.at_ y.1.Lo
      rw [lk_mem hu.ord (List.mem_append_right _ (List.mem_singleton.2 rfl)) (Int.le_refl _) hyo.2.1,if_pos (by omega)] at h2
      rw [h2]; exact hg _
     have hx2:idx (gr f (d++[y])) (IntKind.wrap .i64 (((gr f (d++[y])).length:Int) - (1:Int)))=some (gr1 f y):=by rw [Zrb]; exact Z17 _ _ hgrl
     have hpos:decide (((gr f (d++[y])).length:Int) > 0)=true:=by rw [gr_len]; simp
     have e4:IntKind.wrap .u32 (y.1.Hi + (1:Int))=y.1.Hi + 1:=wu32 (by omega) (by omega)
     rw [hpos]
     simp only [Option.bind_some,if_true,hx2]
     rw [show (gr1 f y).f_values.Hi=y.1.Hi from rfl,e4,show (gr1 f y).f_rest=y.2.map (pad (f + 1)) from rfl]
     rw [Zxx (by rw [List.length_map]; rw [Zfd,List.length_append] at hc; obtain⟨yr,yrest⟩:=y; rw [Zhs] at hc; simp only at hc ⊢; omega)]
     have hmi:((y.2.map (pad (f + 1))=(g p).map (pad (f + 1))) ↔ y.2=g p):=Znu (by omega) hyg (hg p)
     simp only [hmi,Option.bind_some]
     have ej:joinC (d++[y]) p (q - 1) (g p)=if y.1.Hi + 1=p∧y.2=g p then d++[(⟨y.1.Lo,q - 1⟩,g p)] else (d++[y])++[(⟨p,q - 1⟩,g p)]:=by
      unfold joinC
      rw [if_neg hg0,List.getLast?_concat]
      simp only [List.dropLast_concat]
     by_cases hj:y.1.Hi + 1=p∧y.2=g p
     ·rw [if_pos hj] at ej
      rw [ej] at key hfin ⊢
      have hb1:(y.1.Hi + 1 == p)=true:=by simpa using hj.1
      rw [hb1]
      simp only [if_true,decide_eq_true hj.2,Option.bind_some]
      have e5:(flt (d++[(⟨y.1.Lo,q - 1⟩,g p)])).length=(flt (d++[y])).length:=by
       rw [Zfd,Zfd,List.length_append,List.length_append,Zhs]
       obtain⟨yr,yrest⟩:=y
       rw [Zhs]
       rw [← hj.2]
      rw [e5] at key hfin
      have e6:(gr f (d++[y])).set (Int.toNat (IntKind.wrap .i64 (((gr f (d++[y])).length:Int) - (1:Int)))) ({ gr1 f y with f_values:=({ (gr1 f y).f_values with Hi:=q - 1 }:Zb) }:Zg)=gr f (d++[(⟨y.1.Lo,q - 1⟩,g p)]):=by
       rw [Zrb,Z18 _ _ _ hgrl,Zrb]
       rw [show (gr1 f (⟨y.1.Lo,q - 1⟩,g p))=({ gr1 f y with f_values:=({ (gr1 f y).f_values with Hi:=q - 1 }:Zb) }:Zg) by unfold gr1; rw [hj.2]]
      have e7:({ f_values:={ Lo:=(gr1 f y).f_values.Lo,Hi:=q - 1 },f_rest:=y.2.map (pad (f + 1)) }:Zg)=({ gr1 f y with f_values:=({ (gr1 f y).f_values with Hi:=q - 1 }:Zb) }:Zg):=rfl
      first | rw [e6] | (rw [e7,e6])
      exact key hc
     ·rw [if_neg hj] at ej
      rw [ej] at key hfin ⊢
      have e8:(flt (d++[y]++[(⟨p,q - 1⟩,g p)])).length=(flt (d++[y])).length + (g p).length:=by
       rw [Zfd,List.length_append,Zhs]
      rw [e8] at key hfin
      have e3:IntKind.wrap .i64 (((flt (d++[y])).length:Int) + ((g p).length:Int))=(((flt (d++[y])).length + (g p).length:Nat):Int):=by
       rw [wi64 (by omega) (by omega)]; omega
      have hcond:(if (y.1.Hi + 1 == p)=true then some (decide (y.2=g p)) else some false)=some false:=by
       by_cases h3:y.1.Hi + 1=p
       ·rw [if_pos (by simpa using h3),decide_eq_false fun h4=>hj ⟨h3,h4⟩]
       ·rw [if_neg (by simpa using h3)]
      rw [hcond]
      simp only [Option.bind_some,Bool.false_eq_true,if_false]
      rw [if_pos (show (gr f (d++[y])).length + [(Zg.mk (Zb.mk p (q - 1)) ((g p).map (pad (f + 1))))].length≤lim by rw [gr_len,List.length_singleton]; unfold lim; omega),e3]
      by_cases hsz:(flt (d++[y])).length + (g p).length≤m
      ·rw [if_neg (by simp; omega)]
       simp only [Option.bind_some]
       have:=key hsz
       rw [Zrb] at this
       exact this
      ·rw [if_pos (by simp; omega),if_neg (by omega)]
       rfl
  ·rw [if_neg hgm]
   simp only [Bool.not_false,if_true,Option.bind_some]
   rw [if_neg (by omega)]
end Go.AM
set_option maxRecDepth 100000
namespace Go.AM
open Go
theorem Zx2 {f:Nat} (hf:f<5) (x:Cell) (hx:∀ b∈x.2,b.length=4 - f) (acc:List Bx) (hl:acc.length + x.2.length≤2000000000) :
  Z1 (f:Int) (gr1 f x) fuel acc 0=some (acc++(x.2.map (x.1 :: ·)).map (pad f)):=by
 have hlen:(x.2.map (pad (f + 1))).length=x.2.length:=List.length_map _
 have:=Zch (L:=Z1 (f:Int) (gr1 f x)) (x.2.map (pad (f + 1))) (fun s _ y=>s++[Arr5.set y (f:Int) x.1]) id (fun i s=>s.length≤acc.length + i) (by omega) (fun n s i hi hs=>by
  rw [Z1]
  simp only [show (gr1 f x).f_rest=x.2.map (pad (f + 1)) from rfl,show (gr1 f x).f_values=x.1 from rfl,show ((i:Int)<((x.2.map (pad (f + 1))).length:Int)) from by omega,decide_true,if_true,Z5 hi,Option.bind_some,wsucc (by omega:i<1000000000001),List.length_singleton]
  rw [if_pos ⟨by omega,by omega⟩,if_pos (show s.length + 1≤lim by unfold lim; omega)]
  exact⟨rfl,by simp; omega⟩) (fun n s hs=>by rw [Z1]; simp [show (gr1 f x).f_rest=x.2.map (pad (f + 1)) from rfl]) acc (by omega)
 rw [this.1,Zih,List.map_map,List.map_map]
 simp only [id]
 congr 2
 exact List.map_congr_left fun b hb=>Zq8 hf (hx b hb) x.1
theorem Zx3 {f:Nat} (hf:f<5) (c:List Cell) (hc:∀ x∈c,∀ b∈x.2,b.length=4 - f) (hl:(flt c).length≤2000000000) (hcl:c.length≤2000000000) :
  Zx (f:Int) (gr f c) fuel [] 0=some ((flt c).map (pad f)):=by
 have e:∀(d:List Cell) (acc:List Bx) (i:Nat),foldI (fun(s:List Bx) _ (y:Cell)=>s++(y.2.map (y.1 :: ·)).map (pad f)) acc i d=acc++(flt d).map (pad f):=by
  intro d
  induction d with
  | nil=>intro acc i; simp [foldI,flt]
  | cons x d ih=>intro acc i; simp only [foldI]; rw [ih,Zh3,List.map_append,List.append_assoc]
 have:=Zch (L:=Zx (f:Int) (gr f c)) c (fun s _ y=>s++(y.2.map (y.1 :: ·)).map (pad f)) id (fun i s=>s.length=(flt (c.take i)).length) (by omega) (fun n s i hi hs=>by
  have hi':i<(gr f c).length:=by rw [gr_len]; exact hi
  have hx:idx (gr f c) (i:Int)=some (gr1 f c[i]):=by rw [Z5 hi']; exact congrArg some (List.getElem_map ..)
  have tk:flt (c.take (i + 1))=flt (c.take i)++(c[i].2.map (c[i].1 :: ·)):=by
   rw [List.take_add_one,List.getElem?_eq_getElem hi,Zfd]; simp [flt]
  have hle:(flt (c.take (i + 1))).length≤(flt c).length:=by
   conv=>rhs; rw [← List.take_append_drop (i + 1) c,Zfd,List.length_append]
   omega
  have hle2:(flt (c.take (i + 1))).length=(flt (c.take i)).length + (c[i]).2.length:=by rw [tk,List.length_append,List.length_map]
  rw [Zx]
  rw [if_pos (by rw [gr_len]; simp; omega),hx]
  simp only [Option.bind_some]
  rw [Zx2 hf _ (hc _ (List.getElem_mem hi)) s (by omega)]
  simp only [Option.bind_some]
  rw [wsucc (by omega)]
  refine⟨rfl,?_⟩
  rw [List.length_append,List.length_map,List.length_map,hle2,hs]) (fun n s hs=>by rw [Zx]; simp [gr_len]) [] rfl
 rw [this.1,e]
 rfl
structure Canon (op:Bool→Bool→Bool) (C:Nat→Int→List Bx→List Bx→Int→Option (List Bx × Bool)):Prop where
 ff:op false false=false
 base:∀ nr a b m,C (nr + 1) 5 a b m=some (if op (decide ((a.length:Int) > 0)) (decide ((b.length:Int) > 0))=true then ([⟨zr,zr,zr,zr,zr⟩],true) else ([],true))
 step:∀ nr (f:Int) a b m,f ≠ 5→C (nr + 1) f a b m=if (IntKind.wrap .i64 ((a.length:Int) + (b.length:Int)) == (0:Int))=true then some ([],true) else
  (Zec f [a,b]).bind fun r12=>(Z0 f a b m (C nr) r12 fuel [] 0 0).bind fun o=>match o with
   | .inl (v175,v176)=>if 0≤v176∧v176≤(lim:Int) then (Zx f v175 fuel [] 0).bind fun v=>some (v,true) else none
   | .inr r=>some r
theorem mS5 (a:List Bx):mS (a.map (sf 5)) []=decide ((a.length:Int) > 0):=by
 cases a with
 | nil=>rfl
 | cons b a=>
  have:decide (((b :: a).length:Int) > 0)=true:=by simp
  rw [this]
  show (mB (sf 5 b) [] || mS (a.map (sf 5)) [])=true
  rfl
theorem BOk.all {a:List Bx} (h:∀ x∈a,BOk x) (f v:Int):∀ x∈cov a f v,BOk x:=fun x hx=>h x (Z29 hx)
theorem level {op:Bool→Bool→Bool} {f:Nat} (hf:f<5) {a b:List Bx} {c:List Cell} {ps:List Int} (hps:Pts f (a++b) ps) (hL:Is op (topOf (f:Int) :: tops5.drop (f + 1)) (a.map (sf f)) (b.map (sf f)) (flt c)) (ho:Ord (topOf (f:Int)) c) (hc:∀ x∈c,CF (tops5.drop (f + 1)) x.2) :
  (∃ tl,ps=0 :: tl∧Steps (lk c) (0 :: tl)∧runC (lk c) [] (0 :: tl)=c)∧(∀ v,∀ b∈lk c v,b.length=4 - f) ∧
  ∀ v,0≤v→v≤topOf (f:Int)→Is op (tops5.drop (f + 1)) ((cov a f v).map (sf (f + 1))) ((cov b f v).map (sf (f + 1))) (lk c v):=by
 have hat:∀ v,0≤v→v≤topOf (f:Int)→Is op (tops5.drop (f + 1)) (atv (a.map (sf f)) v) (atv (b.map (sf f)) v) (lk c v):=fun v h0 h1=>Is.at_ ho hc hL h0 h1
 obtain⟨tl,rfl⟩:=hps.h0
 have hrng:∀ x∈(0:Int) :: tl,x≤topOf (f:Int) + 1:=by
  obtain⟨ys,hy⟩:=List.getLast?_eq_some_iff.1 hps.hl
  intro x hx
  have hp:=hps.asc
  rw [hy] at hx hp
  rcases List.mem_append.1 hx with h | h
  ·have:=(List.pairwise_append.1 hp).2.2 x h _ (List.mem_singleton.2 rfl); omega
  ·rw [List.mem_singleton] at h; omega
 have hcut:∀ l:List Bx,(∀ x∈l,x∈a++b)→Cut ((0:Int) :: tl) (l.map (sf f)):=by
  intro l hl x hx r b' e
  obtain⟨z,hz,rfl⟩:=List.mem_map.1 hx
  rw [Zlc hf,List.cons.injEq] at e
  rw [← e.1]
  exact hps.cut z (hl z hz)
 have hsteps:Steps (lk c) (0 :: tl):=by
  refine Zxt (List.cons_ne_nil _ _) hps.asc fun i h v h1 h2=>?_
  have hx:=Zws hps.asc h
  have hm:=List.pairwise_iff_getElem.1 hps.asc
  have h0i:0≤((0:Int) :: tl)[i]:=by
   rcases Nat.eq_zero_or_pos i with rfl | hi
   ·exact Int.le_refl _
   ·exact Int.le_of_lt (hm 0 i (by simp) (by omega) hi)
  have hti:=hrng _ (List.getElem_mem h)
  have key:∀ {l:List RL},Cut ((0:Int) :: tl) l→atv l v=atv l ((0:Int) :: tl)[i]:=fun hl=>
   Z1t (fun b hb r b' e=>⟨hx _ (hl b hb r b' e).1,hx _ (hl b hb r b' e).2⟩) h1 h2
  have g1:=hat v (by omega) (by omega)
  rw [key (hcut a fun x hx=>List.mem_append_left _ hx),key (hcut b fun x hx=>List.mem_append_right _ hx)] at g1
  exact g1.inj (hat _ h0i (by omega))
 refine⟨⟨tl,rfl,hsteps,Z25 hsteps hps.hl ho fun v _ _=>rfl⟩,fun v b' hb'=>?_,fun v h0 h1=>by rw [Zzh hf,Zzh hf]; exact hat v h0 h1⟩
 have:=CF_len _ (CF_lk ho hc v) b' hb'
 rw [this,List.length_drop]
 show 5 - (f + 1)=4 - f
 omega
theorem Z19 {op:Bool→Bool→Bool} {C:Nat→Int→List Bx→List Bx→Int→Option (List Bx × Bool)} (hC:Canon op C) {m:Nat} (hm1:1≤m) (hm:m≤100000):∀(k f nr:Nat) (a b:List Bx) (l:List RL),f + k=5→k<nr→a.length + b.length≤400000→(∀ x∈a,BOk x)→(∀ x∈b,BOk x) →
  Is op (tops5.drop f) (a.map (sf f)) (b.map (sf f)) l→C nr (f:Int) a b (m:Int)=some (capd m f l):=by
 intro k
 induction k with
 | zero=>
  intro f nr a b l hf hn hl ha hb hL
  have hf:f=5:=by omega
  subst hf
  cases nr with
  | zero=>omega
  | succ nr=>
  have h1:=hL.mem [] trivial
  rw [mS5,mS5] at h1
  rw [show ((5:Nat):Int)=5 from rfl,hC.base,← h1]
  rcases hL.cf with rfl | rfl
  ·rfl
  ·rw [if_pos (show mS [[]] []=true from rfl)]
   unfold capd
   rw [if_pos (show ([[]]:List RL).length≤m from hm1)]
   rfl
 | succ k ih=>
  intro f nr a b l hf hn hl ha hb hL
  have hf5:f<5:=by omega
  cases nr with
  | zero=>omega
  | succ nr=>
  rw [Zm9 hf5] at hL
  rw [hC.step nr (f:Int) a b _ (by omega)]
  rw [wi64 (by omega) (by omega)]
  by_cases h0:a.length + b.length=0
  ·rw [if_pos (by simp; omega)]
   have ha0:a=[]:=List.length_eq_zero_iff.1 (by omega)
   have hb0:b=[]:=List.length_eq_zero_iff.1 (by omega)
   subst ha0 hb0
   have:l=[]:=hL.inj ⟨CF_nil _,fun p hp=>by simp [mS,hC.ff]⟩
   rw [this]
   rfl
  ·rw [if_neg (by simp; omega)]
   obtain⟨ps,hp1,hp2⟩:=Z3a hf5 hl ha hb
   rw [hp1]
   simp only [Option.bind_some]
   obtain⟨c,rfl,ho,hc⟩:=hL.cf
   obtain⟨⟨tl,rfl,hs,hr⟩,hg,hz⟩:=level hf5 hp2 hL ho hc
   have hlen:=hp2.len
   rw [List.length_append] at hlen
   have hrng:∀ x∈(0:Int) :: tl,x≤topOf (f:Int) + 1:=by
    obtain⟨ys,hy⟩:=List.getLast?_eq_some_iff.1 hp2.hl
    intro x hx
    have hp:=hp2.asc
    rw [hy] at hx hp
    rcases List.mem_append.1 hx with h | h
    ·have:=(List.pairwise_append.1 hp).2.2 x h _ (List.mem_singleton.2 rfl); omega
    ·rw [List.mem_singleton] at h; omega
   have hmain:=Zx1 hf5 (a:=a) (b:=b) (by omega) (by omega) (m:=m) hm (z0:=C nr) (ps:=0 :: tl) (by omega) (g:=lk c) (fun v b' hb'=>by rw [hg v b' hb']; omega) (fun v h0 h1=>by
    refine ih (f + 1) nr _ _ _ (by omega) (by omega) ?_ (BOk.all ha _ _) (BOk.all hb _ _) (hz v h0 h1)
    have:=Zra a (f:Int) v
    have:=Zra b (f:Int) v
    omega) tl 0 0 fuel [] rfl (by unfold fuel; simp only [List.length_cons] at hlen; omega) (Upto.nil _) hs (Int.le_refl _) hrng (Nat.zero_le _)
   rw [show gr f []=[] from rfl,show (flt []).length=0 from rfl,show ((0:Nat):Int)=0 from rfl,hr] at hmain
   rw [hmain]
   simp only [Option.bind_some]
   unfold capd
   have hcl:=ho.len
   by_cases hm2:(flt c).length≤m
   ·rw [if_pos hm2,if_pos hm2]
    simp only
    rw [if_pos ⟨by omega,by unfold lim; omega⟩,Zx3 hf5 c (fun x hx b' hb'=>by
     have h2:=ho.ok x hx
     have:=hg x.1.Lo b' (by rw [lk_mem ho hx (Int.le_refl _) h2.2.1]; exact hb')
     exact this) (by omega) (by omega)]
    rfl
   ·rw [if_neg hm2,if_neg hm2]
theorem Zx4:Canon (fun x y=>x || y) Zah:=by
 refine⟨rfl,fun nr a b m=>?_,fun nr f a b m hf=>?_⟩
 ·rw [Zah,if_pos (by decide)]
  unfold Ze8
  simp only [Option.bind_some]
  split <;> rfl
 ·rw [Zah,if_neg (by simpa using hf)]
  unfold Ze8
  simp only [Option.bind_some,Bool.or_self,Bool.not_false]
  cases (IntKind.wrap .i64 ((a.length:Int) + (b.length:Int)) == (0:Int)) <;> rfl
theorem Z3c:@Zbu=@Z0:=by
 funext a0 a1 a2 a3 z0 r12 n
 induction n with
 | zero=>rfl
 | succ n ih=>funext v94 v95 v96; rw [Zbu,Z0,ih]
theorem Z3d:@Zbv=@Z1:=by
 funext a0 x n
 induction n with
 | zero=>rfl
 | succ n ih=>funext v w; rw [Zbv,Z1,ih]
theorem Z3e:@Zbw=@Zx:=by
 funext a0 x n
 induction n with
 | zero=>rfl
 | succ n ih=>funext v w; rw [Zbw,Zx,ih,Z3d]
theorem Z0a:Canon (fun x y=>x && y) Zal:=by
 refine⟨rfl,fun nr a b m=>?_,fun nr f a b m hf=>?_⟩
 ·rw [Zal,if_pos (by decide)]
  unfold Zf8
  simp only [Option.bind_some]
  split <;> rfl
 ·rw [Zal,if_neg (by simpa using hf),Z3c,Z3e]
  unfold Zf8
  simp only [Option.bind_some,Bool.and_self,Bool.not_false]
  cases (IntKind.wrap .i64 ((a.length:Int) + (b.length:Int)) == (0:Int)) <;> rfl
theorem Z0b:@Zbk=@Z0:=by
 funext a0 a1 a2 a3 z0 r12 n
 induction n with
 | zero=>rfl
 | succ n ih=>funext v94 v95 v96; rw [Zbk,Z0,ih]
theorem Z0c:@Zbl=@Z1:=by
 funext a0 x n
 induction n with
 | zero=>rfl
 | succ n ih=>funext v w; rw [Zbl,Z1,ih]
theorem Z0d:@Zbm=@Zx:=by
 funext a0 x n
 induction n with
 | zero=>rfl
 | succ n ih=>funext v w; rw [Zbm,Zx,ih,Z0c]
theorem Zwu:Canon (fun x y=>x && !y) Zaf:=by
 refine⟨rfl,fun nr a b m=>?_,fun nr f a b m hf=>?_⟩
 ·rw [Zaf,if_pos (by decide)]
  unfold Zev
  simp only [Option.bind_some]
  split <;> rfl
 ·rw [Zaf,if_neg (by simpa using hf),Z0b,Z0d]
  unfold Zev
  simp only [Option.bind_some,Bool.not_false,Bool.false_and]
  cases (IntKind.wrap .i64 ((a.length:Int) + (b.length:Int)) == (0:Int)) <;> rfl
end Go.AM
set_option maxRecDepth 100000
namespace Go.AM
open Go
def opc (k:Int) (x y:Bool):Bool:=if k=0 then x || y else if k=1 then x && y else if k=2 then x && !y else !(x == y)
theorem Z2a (k:Int) (x y:Bool):Zht k x y=some (opc k x y):=by
 unfold Zht opc
 simp only [Option.bind_some,beq_iff_eq]
 split
 ·rfl
 ·split
  ·rfl
  ·split <;> rfl
theorem opc_ff (k:Int):opc k false false=false:=by
 unfold opc
 split
 ·rfl
 ·split
  ·rfl
  ·split <;> rfl
theorem Z3f (k:Int) (x y:Bool):∃ r,Zib k x y=some r∧(r=true→∀ u w,(x=false→u=false)→(y=false→w=false)→opc k u w=false):=by
 unfold Zib opc
 simp only [Option.bind_some,beq_iff_eq]
 by_cases h1:k=1
 ·subst h1
  refine⟨_,if_pos rfl,fun h u w hu hw=>?_⟩
  simp only [show ¬ (1:Int)=0 by decide,if_false,if_true]
  cases x
  ·rw [hu rfl]; rfl
  ·cases y
   ·rw [hw rfl]; simp
   ·cases h
 ·rw [if_neg h1]
  by_cases h2:k=2
  ·subst h2
   refine⟨_,if_pos rfl,fun h u w hu _=>?_⟩
   simp only [show ¬ (2:Int)=0 by decide,show ¬ (2:Int)=1 by decide,if_false,if_true]
   cases x
   ·rw [hu rfl]; rfl
   ·cases h
  ·rw [if_neg h2]
   refine⟨_,rfl,fun h u w hu hw=>?_⟩
   rw [if_neg h1,if_neg h2]
   cases x <;> cases y <;> simp at h
   rw [hu rfl,hw rfl]
   split <;> rfl
theorem Zyy {f:Nat} (hf:f<5) {e:Int} (h0:0≤e) (h1:e<4294967296):∀(k j n:Nat) (v:List Bx),v.length - j=k→k<n→j≤v.length→v.length≤2000000000 →
  Zea (f:Int) e n v (j:Int)=some (v.take j++(v.drop j).map fun x=>x.set (f:Int) ({ (x.get (f:Int)) with Hi:=e }:Zb)):=by
 intro k
 induction k with
 | zero=>
  intro j n v hk hn hj hl
  cases n with
  | zero=>omega
  | succ n=>
  rw [Zea,if_neg (by simp; omega),List.take_of_length_le (by omega),List.drop_eq_nil_of_le (by omega)]
  simp
 | succ k ih=>
  intro j n v hk hn hj hl
  cases n with
  | zero=>omega
  | succ n=>
  have hjl:j<v.length:=by omega
  rw [Zea,if_pos (by simp; omega),Z5 hjl]
  simp only [Option.bind_some,Int.toNat_natCast]
  rw [if_pos ⟨by omega,by omega⟩,wu32 h0 h1,wsucc (by omega),ih (j + 1) n _ (by rw [List.length_set]; omega) (by omega) (by rw [List.length_set]; omega) (by rw [List.length_set]; exact hl)]
  rw [List.drop_set_of_lt (by omega),List.take_add_one,List.getElem?_eq_getElem (by rw [List.length_set]; exact hjl),List.getElem_set_self,List.take_set_of_le (Nat.le_refl _),List.drop_eq_getElem_cons hjl,List.map_cons,List.append_assoc]
  rfl
theorem Zr7 {f:Nat} (hf:f<5) {r10:List Int} {i:Nat} {p e:Int} (hp:idx r10 (i:Int)=some p) (hp0:0≤p) (hp1:p<4294967296) (h0:0≤e) (h1:e<4294967296) (rest:List RL) (hr:∀ b∈rest,b.length=4 - f) (acc:List Bx) (hl:acc.length + rest.length≤2000000000) :
  Zdg (f:Int) r10 (i:Int) e (rest.map (pad (f + 1))) fuel acc 0=some (acc++(rest.map ((⟨p,e⟩:Zb) :: ·)).map (pad f)):=by
 have hlen:(rest.map (pad (f + 1))).length=rest.length:=List.length_map _
 have:=Zch (L:=Zdg (f:Int) r10 (i:Int) e (rest.map (pad (f + 1)))) (rest.map (pad (f + 1))) (fun s _ y=>s++[Arr5.set y (f:Int) ⟨p,e⟩]) id (fun i s=>s.length≤acc.length + i) (by omega) (fun n s j hj hs=>by
  rw [Zdg]
  simp only [show ((j:Int)<((rest.map (pad (f + 1))).length:Int)) from by omega,decide_true,if_true,Z5 hj,hp,Option.bind_some,wsucc (by omega:j<1000000000001),List.length_singleton,wu32 hp0 hp1,wu32 h0 h1]
  rw [if_pos ⟨by omega,by omega⟩,if_pos (show s.length + 1≤lim by unfold lim; omega)]
  exact⟨rfl,by simp; omega⟩) (fun n s hs=>by rw [Zdg]; simp) acc (by omega)
 rw [this.1,Zih,List.map_map,List.map_map]
 simp only [id]
 congr 2
 exact List.map_congr_left fun b hb=>Zq8 hf (hr b hb) _
theorem Z02 {g:Int→List RL} {p q:Int} {c:List Cell} (hu:Upto g p c) (hg0:g p ≠ []):joinC c p q (g p) =
  if 0<p∧g (p - 1)=g p then match c.getLast? with
   | some y=>c.dropLast++[(⟨y.1.Lo,q⟩,g p)]
   | none=>c++[(⟨p,q⟩,g p)]
  else c++[(⟨p,q⟩,g p)]:=by
 unfold joinC
 rw [if_neg hg0]
 cases hl:c.getLast? with
 | none=>simp
 | some y=>
  obtain⟨d,rfl⟩:=List.getLast?_eq_some_iff.1 hl
  have hy:=hu.ord.ok y (List.mem_append_right _ (List.mem_singleton.2 rfl))
  simp only
  by_cases hj:y.1.Hi + 1=p∧y.2=g p
  ·rw [if_pos hj]
   have h1:=hu.at_ y.1.Hi
   rw [lk_mem hu.ord (List.mem_append_right _ (List.mem_singleton.2 rfl)) hy.2.1 (Int.le_refl _),if_pos (by omega)] at h1
   rw [if_pos ⟨by omega,by rw [show p - 1=y.1.Hi by omega,← h1,hj.2]⟩]
  ·rw [if_neg hj,if_neg]
   rintro⟨h1,h2⟩
   have h3:=hu.at_ (p - 1)
   rw [if_pos (by omega),h2] at h3
   obtain⟨x,hx,h4,h5⟩:=Zj6 (c:=d++[y]) (v:=p - 1) (by rw [h3]; exact hg0)
   have hxo:=hu.ord.ok x hx
   rw [lk_mem hu.ord hx h4 h5] at h3
   rcases List.mem_append.1 hx with hxd | hxd
   ·have:=((List.pairwise_append.1 hu.ord.pw).2.2 x hxd y (List.mem_singleton.2 rfl)).1
    omega
   ·rw [List.mem_singleton] at hxd
    subst hxd
    exact hj ⟨by omega,h3⟩
theorem set_set {f:Nat} (b:Bx) (r s:Zb):(b.set (f:Int) r).set (f:Int) s=b.set (f:Int) s:=by
 unfold Arr5.set
 split
 ·rfl
 ·split
  ·rfl
  ·split
   ·rfl
   ·split <;> rfl
theorem Z3g (c:List Cell) (p q:Int) (g:Int→List RL):(g p).length≤(flt (joinC c p (q - 1) (g p))).length:=Zwd c p (q - 1) (g p)
theorem Zyz {f:Nat} (hf:f<5) {a b:List Bx} (ha:a.length≤2000000000) (hb:b.length≤2000000000) (hai:∀ x∈a,BIn x) (hbi:∀ x∈b,BIn x) {k:Int}
  {z0:List Bx→List Bx→Int→Int→Option (List Bx)} {ss:List Int} (hss:ss.length≤1000000) {g:Int→List RL} (hg:∀ v,∀ b∈g v,b.length=5 - (f + 1))
  (hz:∀ v,0≤v→v≤topOf (f:Int)→z0 (cov a f v) (cov b f v) k ((f + 1:Nat):Int)=some ((g v).map (pad (f + 1)))) :
  ∀(rem:List Int) (p:Int) (i n:Nat) (c:List Cell) (last:List Bx),(ss++[topOf (f:Int) + 1]).drop i=p :: rem→rem.length<n→Upto g p c→Steps g (p :: rem)→0≤p→(i=0 ↔ p=0)→(0<p→last=(g (p - 1)).map (pad (f + 1)))→(flt (runC g c (p :: rem))).length≤2000000000 →
  Zeb a b k (f:Int) z0 ss n ((flt c).map (pad f)) last (i:Int)=some ((flt (runC g c (p :: rem))).map (pad f)):=by
 intro rem
 induction rem with
 | nil=>
  intro p i n c last hd hn hu hs hp hi0 hlast hc
  cases n with
  | zero=>simp at hn
  | succ n=>
  have hi:ss.length=i:=by
   have h1:=congrArg List.length hd
   rw [List.length_drop,List.length_append] at h1
   simp at h1; omega
  rw [Zeb,if_neg (by simp; omega)]
  rfl
 | cons q rem ih=>
  intro p i n c last hd hn hu hs hp hi0 hlast hc
  cases n with
  | zero=>simp at hn
  | succ n=>
  obtain⟨hpq,hgc,hs'⟩:=hs
  have htop:=topN hf
  have hlen:i + 1≤ss.length:=by
   have h1:=congrArg List.length hd
   rw [List.length_drop,List.length_append] at h1
   simp at h1; omega
  have gi:∀ j,((ss++[topOf (f:Int) + 1]).drop i)[j]? = (ss++[topOf (f:Int) + 1])[i + j]?:=fun j=>List.getElem?_drop
  have h0:idx ss (i:Int)=some p:=by
   have h1:=gi 0
   rw [hd,Nat.add_zero,List.getElem?_append_left (by omega)] at h1
   simp only [List.getElem?_cons_zero] at h1
   rw [Z5 (by omega),← List.getElem?_eq_getElem,← h1]
  have hd':(ss++[topOf (f:Int) + 1]).drop (i + 1)=q :: rem:=by rw [← List.drop_drop,hd]; rfl
  have hasc:∀(l:List Int) (x:Int),Steps g (x :: l)→∀ y,(x :: l).getLast? = some y→x≤y:=by
   intro l
   induction l with
   | nil=>intro x _ y hy; simp at hy; omega
   | cons z l ih2=>
    intro x hx y hy
    rw [List.getLast?_cons_cons] at hy
    have:=ih2 z hx.2.2 y hy
    have:=hx.1
    omega
  have hqt:q≤topOf (f:Int) + 1:=by
   refine hasc rem q hs' _ ?_
   rw [← hd',List.getLast?_drop,if_neg (by rw [List.length_append]; simp; omega),List.getLast?_concat]
  have hpt:p≤topOf (f:Int):=by omega
  have hend:(if (decide ((IntKind.wrap .i64 ((i:Int) + (1:Int)))<(List.length ss:Int)))=true then
    (idx ss (IntKind.wrap .i64 ((i:Int) + (1:Int)))).bind fun(x486:Int)=>
    some (IntKind.wrap .u64 (x486 - (1:Int)))
   else
    some (IntKind.wrap .u64 (topOf (f:Int))))=some (q - 1):=by
   rw [wsucc (by omega)]
   have h1:=gi 1
   rw [hd] at h1
   simp only [List.getElem?_cons_succ,List.getElem?_cons_zero] at h1
   by_cases hi2:i + 1<ss.length
   ·rw [if_pos (by simp; omega)]
    rw [List.getElem?_append_left hi2,List.getElem?_eq_getElem hi2,Option.some.injEq] at h1
    rw [Z5 hi2,← h1]
    simp only [Option.bind_some]
    rw [wu64 (by omega) (by omega)]
   ·rw [if_neg (by simp; omega)]
    rw [List.getElem?_append_right (by omega),show i + 1 - ss.length=0 by omega] at h1
    simp only [List.getElem?_cons_zero,Option.some.injEq] at h1
    rw [wu64 (by omega) (by omega),h1]
    congr 1
    omega
  have e1:IntKind.wrap .u32 p=p:=wu32 hp (by omega)
  have hu':=hu.step hp hpq hgc
  have hq1:g (q - 1)=g p:=hgc _ (by omega) (by omega)
  have hrun:runC g c (p :: q :: rem)=runC g (joinC c p (q - 1) (g p)) (q :: rem):=rfl
  rw [hrun] at hc ⊢
  have hfin:=Zm7 g (q :: rem) (joinC c p (q - 1) (g p))
  have key:=ih q (i + 1) n (joinC c p (q - 1) (g p)) ((g p).map (pad (f + 1))) hd' (by simp at hn; omega) hu' hs' (by omega) (by omega) (fun _=>by rw [hq1]) hc
  rw [Zeb,if_pos (by simp; omega),Top_eq _ (by omega) (by omega)]
  simp only [Option.bind_some,hend,h0]
  rw [at_eq ha (by omega) (by omega) _ hai,at_eq hb (by omega) (by omega) _ hbi]
  simp only [Option.bind_some]
  rw [wsucc (i:=f) (by omega),hz p hp hpt]
  simp only [Option.bind_some,List.length_map]
  by_cases hg0:g p=[]
  ·have ej:joinC c p (q - 1) (g p)=c:=by unfold joinC; rw [if_pos hg0]
   rw [ej] at key ⊢
   rw [hg0]
   have h3:=Zr7 hf h0 hp (by omega) (e:=q - 1) (by omega) (by omega) [] (fun _ h=>(by cases h)) ((flt c).map (pad f)) (by
    have:=Zm7 g (q :: rem) c
    rw [ej] at hfin hc
    rw [List.length_map]; simp; omega)
   simp only [List.map_nil,List.append_nil] at h3
   have hb2:(decide ((i:Int) > 0) && decide (((([]:List RL).length:Nat):Int) > 0))=false:=by simp
   rw [hb2]
   simp only [Bool.false_eq_true,if_false,Option.bind_some,List.map_nil,h3]
   rw [wsucc (by omega)]
   rw [hg0] at key
   exact key
  ·have hgl:0<(g p).length:=List.length_pos_iff.2 hg0
   have hj:=Z02 (q:=q - 1) hu hg0
   have hb2:(decide ((i:Int) > 0) && decide (((g p).length:Int) > 0))=decide (0<p):=by
    rw [Bool.eq_iff_iff]; simp; omega
   rw [hb2]
   by_cases hjj:0<p∧g (p - 1)=g p
   ·rw [if_pos hjj] at hj
    rw [hlast hjj.1,hjj.2,decide_eq_true hjj.1]
    simp only [if_true]
    rw [Zvk (by rw [List.length_map]; have:=Z3g c p q g; omega)]
    simp only [decide_true,Option.bind_some,if_true]
    have h3:=hu.at_ (p - 1)
    rw [if_pos (by omega),hjj.2] at h3
    cases hl:c.getLast? with
    | none=>
     rw [List.getLast?_eq_none_iff] at hl
     subst hl
     exact absurd h3.symm hg0
    | some y=>
     rw [hl] at hj
     obtain⟨d,rfl⟩:=List.getLast?_eq_some_iff.1 hl
     simp only [List.dropLast_concat] at hj
     rw [hj] at key hfin hc ⊢
     have hy2:y.2=g p:=by
      have hjo:=hj
      unfold joinC at hjo
      rw [if_neg hg0,List.getLast?_concat] at hjo
      simp only [List.dropLast_concat] at hjo
      split at hjo
      ·rename_i hh; exact hh.2
      ·have:=congrArg List.length hjo
       simp at this
     have hyr:∀ b∈y.2,b.length=4 - f:=fun b hb=>by rw [hy2] at hb; have:=hg p b hb; omega
     have hfl:flt (d++[y])=flt d++y.2.map (y.1 :: ·):=by rw [Zfd]; simp [flt]
     have hfl2:flt (d++[((⟨y.1.Lo,q - 1⟩:Zb),g p)])=flt d++(g p).map ((⟨y.1.Lo,q - 1⟩:Zb) :: ·):=by rw [Zfd]; simp [flt]
     have hlen2:(flt (d++[y])).length=(flt d).length + (g p).length:=by rw [hfl,List.length_append,List.length_map,hy2]
     have hlen3:(flt (d++[((⟨y.1.Lo,q - 1⟩:Zb),g p)])).length=(flt d).length + (g p).length:=by rw [hfl2,List.length_append,List.length_map]
     rw [hlen3] at hfin
     rw [hlen2,wi64 (by omega) (by omega),show (((flt d).length + (g p).length:Nat):Int) - ((g p).length:Int)=(((flt d).length:Nat):Int) by omega]
     rw [Zyy hf (by omega) (by omega) _ _ fuel _ rfl (by rw [List.length_map,hlen2]; unfold fuel; omega) (by rw [List.length_map,hlen2]; omega) (by rw [List.length_map,hlen2]; omega)]
     simp only [Option.bind_some]
     rw [wsucc (by omega)]
     have e9:((flt (d++[y])).map (pad f)).take (flt d).length++(((flt (d++[y])).map (pad f)).drop (flt d).length).map (fun x=>x.set (f:Int) ({ (x.get (f:Int)) with Hi:=q - 1 }:Zb))=(flt (d++[((⟨y.1.Lo,q - 1⟩:Zb),g p)])).map (pad f):=by
      rw [hfl,hfl2,List.map_append,List.take_left' (by rw [List.length_map]),List.drop_left' (by rw [List.length_map]),List.map_append,hy2,List.map_map,List.map_map,List.map_map]
      congr 1
      refine List.map_congr_left fun b hb=>?_
      have hb4:b.length=4 - f:=hyr b (by rw [hy2]; exact hb)
      have hsf:sf f (pad f (y.1 :: b))=y.1 :: b:=sf_pad (by omega) (by rw [List.length_cons]; omega)
      show (pad f (y.1 :: b)).set (f:Int) ({ ((pad f (y.1 :: b)).get (f:Int)) with Hi:=q - 1 }:Zb)=pad f (⟨y.1.Lo,q - 1⟩ :: b)
      have hget:(pad f (y.1 :: b)).get (f:Int)=y.1:=by
       rw [Zlc hf,List.cons.injEq] at hsf
       exact hsf.1
      rw [hget,← Zq8 hf hb4 y.1,set_set,Zq8 hf hb4]
     rw [e9]
     have:=key
     exact this
   ·rw [if_neg hjj] at hj
    rw [hj] at key hfin hc ⊢
    have hfl2:flt (c++[((⟨p,q - 1⟩:Zb),g p)])=flt c++(g p).map ((⟨p,q - 1⟩:Zb) :: ·):=by rw [Zfd]; simp [flt]
    have hlen3:(flt (c++[((⟨p,q - 1⟩:Zb),g p)])).length=(flt c).length + (g p).length:=by rw [hfl2,List.length_append,List.length_map]
    rw [hlen3] at hfin
    have hcond:(if decide (0<p)=true then (Zf6 ((g p).map (pad (f + 1))) last).bind fun(r503:Bool)=>some r503 else some false)=some false:=by
     by_cases h3:0<p
     ·rw [if_pos (decide_eq_true h3),hlast h3,Zvk (by rw [List.length_map]; omega)]
      simp only [Option.bind_some]
      rw [decide_eq_false]
      intro he
      exact hjj ⟨h3,((Znu (by omega) (hg p) (hg (p - 1))).1 he).symm⟩
     ·rw [if_neg (by simpa using h3)]
    rw [hcond]
    simp only [Option.bind_some,Bool.false_eq_true,if_false]
    rw [Zr7 hf h0 hp (by omega) (e:=q - 1) (by omega) (by omega) (g p) (fun b hb=>by have:=hg p b hb; omega) ((flt c).map (pad f)) (by rw [List.length_map]; omega)]
    simp only [Option.bind_some]
    rw [wsucc (by omega)]
    rw [hfl2,List.map_append] at key
    exact key
end Go.AM
set_option maxRecDepth 100000
namespace Go.AM
open Go
theorem Z2b {k:Int}:∀(j f nr:Nat) (a b:List Bx) (l:List RL),f + j=5→j<nr→a.length + b.length≤400000→(∀ x∈a,BOk x)→(∀ x∈b,BOk x) →
  Is (opc k) (tops5.drop f) (a.map (sf f)) (b.map (sf f)) l→l.length≤2000000000→Zbr nr a b k (f:Int)=some (l.map (pad f)):=by
 intro j
 induction j with
 | zero=>
  intro f nr a b l hf hn hl ha hb hL hlen
  have hf:f=5:=by omega
  subst hf
  cases nr with
  | zero=>omega
  | succ nr=>
  have h1:=hL.mem [] trivial
  rw [mS5,mS5] at h1
  rw [show ((5:Nat):Int)=5 from rfl,Zbr,if_pos (by decide),Z2a]
  simp only [Option.bind_some]
  rw [← h1]
  rcases hL.cf with rfl | rfl
  ·rfl
  ·rfl
 | succ j ih=>
  intro f nr a b l hf hn hl ha hb hL hlen
  have hf5:f<5:=by omega
  cases nr with
  | zero=>omega
  | succ nr=>
  rw [Zm9 hf5] at hL
  rw [Zbr,if_neg (by simp; omega)]
  obtain⟨r,hr1,hr2⟩:=Z3f k (decide ((a.length:Int) > 0)) (decide ((b.length:Int) > 0))
  rw [hr1]
  simp only [Option.bind_some]
  cases r with
  | true=>
   rw [if_pos rfl]
   have:l=[]:=by
    refine hL.inj ⟨CF_nil _,fun p hp=>?_⟩
    rw [mS_nil]
    refine(hr2 rfl _ _ (fun h=>?_) (fun h=>?_)).symm
    ·have:a=[]:=List.length_eq_zero_iff.1 (by simp at h; simp [h])
     subst this; rfl
    ·have:b=[]:=List.length_eq_zero_iff.1 (by simp at h; simp [h])
     subst this; rfl
   rw [this]
   rfl
  | false=>
   rw [if_neg (by simp)]
   rw [Z00 hf5 hl]
   simp only [Option.bind_some]
   rw [Top_eq _ (by omega) (by omega)]
   simp only [Option.bind_some]
   have hab:∀ x∈a++b,BOk x:=fun x hx=>(List.mem_append.1 hx).elim (ha x) (hb x)
   obtain⟨ss,hs1,hs2⟩:=Z01 (rs:=(a++b).map fun x=>x.get (f:Int)) (top:=topOf (f:Int)) (by rw [List.length_map,List.length_append]; exact hl) (topN hf5).1 (by have:=topN hf5; omega) (fun y hy=>by
    obtain⟨x,hx,rfl⟩:=List.mem_map.1 hy
    exact(hab x hx).at_ hf5)
   rw [hs1]
   simp only [Option.bind_some]
   have hps:=Zz9 hf5 hab hs2
   obtain⟨c,rfl,ho,hc⟩:=hL.cf
   obtain⟨⟨tl,he,hst,hr⟩,hg,hz⟩:=level hf5 hps hL ho hc
   have hlen2:=hs2.len
   rw [List.length_map,List.length_append] at hlen2
   have hmain:=Zyz hf5 (a:=a) (b:=b) (by omega) (by omega) (fun x hx=>(ha x hx).bin) (fun x hx=>(hb x hx).bin) (k:=k) (z0:=Zbr nr) (ss:=ss) (by omega) (g:=lk c) (fun v b' hb'=>by rw [hg v b' hb']; omega) (fun v h0 h1=>by
    refine ih (f + 1) nr _ _ _ (by omega) (by omega) ?_ (BOk.all ha _ _) (BOk.all hb _ _) (hz v h0 h1) ?_
    ·have:=Zra a (f:Int) v
     have:=Zra b (f:Int) v
     omega
    ·have:=lk_le c ho v; omega) tl 0 0 fuel [] [] (by rw [he]; rfl) (by
     have:=congrArg List.length he
     rw [List.length_append] at this
     simp at this
     unfold fuel; omega) (Upto.nil _) hst (Int.le_refl _) (by simp) (fun h=>by omega) (by rw [hr]; exact hlen)
   rw [hr] at hmain
   rw [show ((0:Nat):Int)=0 from rfl] at hmain
   rw [show (flt []).map (pad f)=[] from rfl] at hmain
   rw [hmain]
   rfl
def mem (l:List Bx) (p:List Int):Bool:=mS (l.map toL) p
def CFb (l:List Bx):Prop:=CF tops5 (l.map toL)
theorem CF_vR:∀(ts:List Int) {l:List RL},CF ts l→∀ b∈l,vR ts b
 | [],l,h,b,hb=>by
  rcases h with rfl | rfl
  ·cases hb
  ·rw [List.mem_singleton] at hb; rw [hb]; trivial
 | t :: ts,l,⟨c,h1,h2,h3⟩,b,hb=>by
  subst h1
  obtain⟨x,hx,hb⟩:=List.mem_flatMap.1 hb
  obtain⟨b',hb',rfl⟩:=List.mem_map.1 hb
  have:=h2.ok x hx
  exact⟨this.1,this.2.1,this.2.2.1,CF_vR ts (h3 x hx) b' hb'⟩
theorem vR_ok {b:Bx} (h:vR tops5 (toL b)):BOk b:=by
 obtain⟨a0,a1,a2,b0,b1,b2,c0,c1,c2,d0,d1,d2,e0,e1,e2,_⟩:=h
 exact⟨⟨a0,a1,a2⟩,⟨b0,b1,b2⟩,⟨c0,c1,c2⟩,⟨d0,d1,d2⟩,⟨e0,e1,e2⟩⟩
theorem CFb.ok {l:List Bx} (h:CFb l):∀ b∈l,BOk b:=fun b hb=>vR_ok (CF_vR _ h _ (List.mem_map_of_mem hb))
theorem Zy0 {l:List RL} (h:∀ b∈l,b.length=5):(l.map (pad 0)).map toL=l:=by
 rw [List.map_map]
 conv=>rhs; rw [← List.map_id l]
 exact List.map_congr_left fun b hb=>Zzg (h b hb)
theorem Zx5:∀ t∈tops5,0≤t:=by unfold tops5; simp
theorem Z0e (op:Bool→Bool→Bool) (a b:List Bx):∃ l:List Bx,Is op tops5 (a.map toL) (b.map toL) (l.map toL):=by
 obtain⟨l,h⟩:=Is.exists_ op tops5 Zx5 (a.map toL) (b.map toL)
 refine⟨l.map (pad 0),?_⟩
 rw [Zy0 (fun b hb=>CF_len _ h.cf b hb)]
 exact h
structure Can (op:Bool→Bool→Bool) (a b l:List Bx):Prop where
 cf:CFb l
 mem:∀ p,vP tops5 p→mem l p=op (mem a p) (mem b p)
theorem Can.is {op:Bool→Bool→Bool} {a b l:List Bx} (h:Can op a b l):Is op tops5 (a.map toL) (b.map toL) (l.map toL):=⟨h.cf,h.mem⟩
theorem Zr8 {l l':List Bx} (h:l.map toL=l'.map toL):l=l':=by
 have:=congrArg (List.map ofL) h
 rw [List.map_map,List.map_map] at this
 have e:(ofL ∘ toL)=id:=funext fun b=>Zq9 b
 rw [e,List.map_id,List.map_id] at this
 exact this
theorem CFb.inj {l l':List Bx} (h:CFb l) (h':CFb l') (e:∀ p,vP tops5 p→mem l p=mem l' p):l=l':=Zr8 (CF_inj _ h h' e)
theorem Can.inj {op:Bool→Bool→Bool} {a b l l':List Bx} (h:Can op a b l) (h':Can op a b l'):l=l':=h.cf.inj h'.cf fun p hp=>by rw [h.mem p hp,h'.mem p hp]
theorem Can.ex (op:Bool→Bool→Bool) (a b:List Bx):∃ l,Can op a b l:=by
 obtain⟨l,h⟩:=Z0e op a b
 exact⟨l,h.cf,h.mem⟩
theorem CFb.nil:CFb []:=CF_nil _
theorem Zvl (p:List Int):mem [] p=false:=rfl
theorem Can.right {op:Bool→Bool→Bool} (h:∀ x,op x false=x) {a:List Bx} (ha:CFb a):Can op a [] a:=⟨ha,fun p _=>by rw [Zvl,h]⟩
theorem Zzj (l:List Bx):(l.map toL).map (pad 0)=l:=by
 rw [List.map_map]
 have e:(pad 0 ∘ toL)=id:=funext fun b=>Zq9 b
 rw [e,List.map_id]
theorem Zqy {op:Bool→Bool→Bool} {C:Nat→Int→List Bx→List Bx→Int→Option (List Bx × Bool)} (hC:Canon op C) {a b l:List Bx} (hl:a.length + b.length≤400000) (ha:∀ x∈a,BOk x) (hb:∀ x∈b,BOk x) (h:Can op a b l) :
  C fuel 0 a b 4096=some (if l.length≤4096 then (l,true) else ([],false)):=by
 have:=Z19 hC (m:=4096) (by omega) (by omega) 5 0 fuel a b (l.map toL) (by omega) (by unfold fuel; omega) hl ha hb h.is
 rw [show ((0:Nat):Int)=0 from rfl,show ((4096:Nat):Int)=4096 from rfl] at this
 rw [this]
 unfold capd
 rw [List.length_map,Zzj]
theorem Zqz {k:Int} {a b l:List Bx} (hl:a.length + b.length≤400000) (ha:∀ x∈a,BOk x) (hb:∀ x∈b,BOk x) (h:Can (opc k) a b l) (hlen:l.length≤2000000000):Zbr fuel a b k 0=some l:=by
 have:=Z2b (k:=k) 5 0 fuel a b (l.map toL) (by omega) (by unfold fuel; omega) hl ha hb h.is (by rw [List.length_map]; exact hlen)
 rw [show ((0:Nat):Int)=0 from rfl] at this
 rw [this,Zzj]
def capB (l:List Bx):List Bx × Int:=if l.length≤4096 then (l,0) else ([],3)
theorem Zo0 (l:List Bx):Zem l=some (capB l):=by
 unfold Zem capB
 by_cases h:l.length≤4096
 ·rw [if_neg (by simp; omega),if_pos h]
 ·rw [if_pos (by simp; omega),if_neg h]
theorem Zvm {a b l:List Bx} (hl:a.length + b.length≤400000) (ha:∀ x∈a,BOk x) (hb:∀ x∈b,BOk x) (h:Can (fun x y=>x || y) a b l):Za6 a b=some (capB l):=by
 unfold Za6 capB
 rw [Zqy Zx4 hl ha hb h]
 by_cases h:l.length≤4096
 ·rw [if_pos h,if_pos h]; rfl
 ·rw [if_neg h,if_neg h]; rfl
theorem Zx6 {a b l:List Bx} (hl:a.length + b.length≤400000) (ha:∀ x∈a,BOk x) (hb:∀ x∈b,BOk x) (h:Can (fun x y=>x && y) a b l):Zdi a b=some (capB l):=by
 unfold Zdi capB
 rw [Zqy Z0a hl ha hb h]
 by_cases h:l.length≤4096
 ·rw [if_pos h,if_pos h]; rfl
 ·rw [if_neg h,if_neg h]; rfl
theorem Zum {a b l:List Bx} (hl:a.length + b.length≤400000) (ha:∀ x∈a,BOk x) (hb:∀ x∈b,BOk x) (h:Can (fun x y=>x && !y) a b l):Zc3 a b=some (capB l):=by
 unfold Zc3 capB
 rw [Zqy Zwu hl ha hb h]
 by_cases h:l.length≤4096
 ·rw [if_pos h,if_pos h]; rfl
 ·rw [if_neg h,if_neg h]; rfl
end Go.AM
set_option maxRecDepth 100000
namespace Go.AM
open Go
theorem Zna {a b:Zb}:Zdp a b=true ↔ a=b:=by rw [eq_rg]; simp
structure RunTo (f:Nat) (l:List Bx) (r:Zb) (n:Nat):Prop where
 h1:n≤l.length
 eq:∀ i (h:i<l.length),i<n→(l[i]).get (f:Int)=r
 ne:∀(h:n<l.length),(l[n]).get (f:Int) ≠ r
theorem Z2c {f:Nat} (hf:f<5) {l:List Bx} (hl:l.length≤1000000) {b0:Bx} (h0:l[0]? = some b0):∀(k j n:Nat),l.length - j=k→k<n→1≤j→j≤l.length→(∀ i (h:i<l.length),i<j→(l[i]).get (f:Int)=b0.get (f:Int)) →
  ∃ N:Nat,Zc4 (f:Int) l n (j:Int)=some (N:Int)∧j≤N∧RunTo f l (b0.get (f:Int)) N:=by
 intro k
 have hpos:0<l.length:=by
  rcases l with _ | ⟨x,l⟩
  ·simp at h0
  ·simp
 have i0:idx l (0:Int)=some b0:=by rw [show (0:Int)=((0:Nat):Int) from rfl,Z5 hpos,← List.getElem?_eq_getElem,h0]
 induction k with
 | zero=>
  intro j n hk hn h1 hj he
  cases n with
  | zero=>omega
  | succ n=>
  have hd:decide ((j:Int)<(l.length:Int))=false:=by simp; omega
  rw [Zc4,hd]
  exact⟨j,rfl,Nat.le_refl _,hj,he,fun h=>by omega⟩
 | succ k ih=>
  intro j n hk hn h1 hj he
  cases n with
  | zero=>omega
  | succ n=>
  have hjl:j<l.length:=by omega
  have hd:decide ((j:Int)<(l.length:Int))=true:=by simp; omega
  rw [Zc4,hd]
  simp only [Option.bind_some,if_true,Z5 hjl,i0]
  rw [if_pos ⟨by omega,by omega⟩,if_pos ⟨by omega,by omega⟩]
  simp only [Option.bind_some]
  by_cases hq:(l[j]).get (f:Int)=b0.get (f:Int)
  ·rw [if_pos (Zna.2 hq),wsucc (by omega)]
   obtain⟨N,e,g1,g2⟩:=ih (j + 1) n (by omega) (by omega) (by omega) (by omega) (fun i h hi=>by
    rcases Nat.lt_or_eq_of_le (Nat.lt_succ_iff.1 hi) with h2 | h2
    ·exact he i h h2
    ·subst h2; exact hq)
   exact⟨N,e,by omega,g2⟩
  ·rw [if_neg (fun h=>hq (Zna.1 h))]
   exact⟨j,rfl,Nat.le_refl _,hj,he,fun _=>hq⟩
theorem Zwe {f:Nat} (hf:f<5) {l:List Bx} {r:Zb} {n:Nat} (hn:1≤n) (h:RunTo f l r n) (hl:l ≠ []) :
  l.map (sf f)=((l.take n).map (sf (f + 1))).map (r :: ·)++(l.drop n).map (sf f)∧(l.take n).map (sf (f + 1)) ≠ []∧∀ b,((l.drop n).map (sf f)).head? = some b→∃ r' b',b=r' :: b'∧r' ≠ r:=by
 refine⟨?_,?_,?_⟩
 ·conv=>lhs; rw [← List.take_append_drop n l,List.map_append]
  congr 1
  rw [List.map_map]
  refine List.map_congr_left fun b hb=>?_
  obtain⟨i,hi,rfl⟩:=List.getElem_of_mem hb
  have hi2:i<n∧i<l.length:=by rw [List.length_take] at hi; omega
  rw [List.getElem_take,Zlc hf,h.eq i hi2.2 hi2.1]
  rfl
 ·intro e
  have:=congrArg List.length e
  simp only [List.length_map,List.length_take,List.length_nil] at this
  have:0<l.length:=List.length_pos_iff.2 hl
  omega
 ·intro b hb
  by_cases hnl:n<l.length
  ·rw [List.drop_eq_getElem_cons hnl] at hb
   simp only [List.map_cons,List.head?_cons,Option.some.injEq] at hb
   exact⟨_,_,by rw [← hb,Zlc hf],h.ne hnl⟩
  ·rw [List.drop_eq_nil_of_le (by omega)] at hb
   simp at hb
def zpre (f:Nat) (b:Bx):Bx:=pad (f + 1) (sf (f + 1) b)
theorem Z03 {f:Nat} (hf:f<5) {v:List Bx} {i:Nat} (hi:i<v.length):Zby (f:Int) (i:Int) fuel v 0=some (v.set i (zpre f v[i])):=by
 obtain⟨n,hn⟩:∃ n,fuel=n + 6:=⟨fuel - 6,by unfold fuel; omega⟩
 rw [hn]
 have stop:∀(k:Nat) (m:Nat) (w:List Bx),f<k→Zby (f:Int) (i:Int) (m + 1) w (k:Int)=some w:=by
  intro k m w hk
  rw [Zby,if_neg (by simp; omega)]
 have nx:∀(k:Nat) (m:Nat) (x:Bx),k<5→k≤f→Zby (f:Int) (i:Int) (m + 1) (v.set i x) (k:Int)=Zby (f:Int) (i:Int) m (v.set i (x.set (k:Int) zr)) ((k + 1:Nat):Int):=by
  intro k m x hk hkf
  rw [Zby,if_pos (by simp; omega),Z5 (show i<(v.set i x).length by rw [List.length_set]; exact hi),List.getElem_set_self]
  simp only [Option.bind_some,Int.toNat_natCast]
  rw [if_pos ⟨by omega,by omega⟩,wsucc (by omega),List.set_set]
  rfl
 have first:v=v.set i v[i]:=(List.set_getElem_self hi).symm
 conv=>lhs; rw [first]
 rw [show (0:Int)=((0:Nat):Int) from rfl]
 rcases fiveN hf with rfl | rfl | rfl | rfl | rfl
 ·rw [nx 0 _ _ (by omega) (by omega),stop _ _ _ (by omega)]; rfl
 ·rw [nx 0 _ _ (by omega) (by omega),nx 1 _ _ (by omega) (by omega),stop _ _ _ (by omega)]; rfl
 ·rw [nx 0 _ _ (by omega) (by omega),nx 1 _ _ (by omega) (by omega),nx 2 _ _ (by omega) (by omega),stop _ _ _ (by omega)]; rfl
 ·rw [nx 0 _ _ (by omega) (by omega),nx 1 _ _ (by omega) (by omega),nx 2 _ _ (by omega) (by omega),nx 3 _ _ (by omega) (by omega),stop _ _ _ (by omega)]; rfl
 ·rw [nx 0 _ _ (by omega) (by omega),nx 1 _ _ (by omega) (by omega),nx 2 _ _ (by omega) (by omega),nx 3 _ _ (by omega) (by omega),nx 4 _ _ (by omega) (by omega),stop _ _ _ (by omega)]; rfl
def stepN {α:Type} (g:α→α) (s:List α) (i:Nat) (_:α):List α:=match s[i]? with
 | some x=>s.set i (g x)
 | none=>s
theorem Zly {α:Type} (g:α→α):∀(l pre:List α),foldI (stepN g) (pre++l) pre.length l=pre++l.map g
 | [],pre=>by simp [foldI]
 | x :: l,pre=>by
  have e:foldI (stepN g) (pre++x :: l) pre.length (x :: l)=foldI (stepN g) (stepN g (pre++x :: l) pre.length x) (pre.length + 1) l:=rfl
  rw [e]
  have h1:(pre++x :: l)[pre.length]? = some x:=by rw [List.getElem?_append_right (Nat.le_refl _),Nat.sub_self]; rfl
  have h2:(pre++x :: l).set pre.length (g x)=(pre++[g x])++l:=by rw [List.set_append_right _ _ (Nat.le_refl _),Nat.sub_self]; simp
  have h3:stepN g (pre++x :: l) pre.length x=(pre++[g x])++l:=by unfold stepN; rw [h1]; exact h2
  rw [h3]
  have:=Zly g l (pre++[g x])
  rw [List.length_append,List.length_singleton] at this
  rw [this]
  simp
theorem Z04 {f:Nat} (hf:f<5) {l:List Bx} (hl:l.length≤2000000000):Zg1 (f:Int) l=some (l.map (zpre f)):=by
 unfold Zg1
 rw [if_pos (by unfold lim; omega)]
 have:=Zch (L:=Zdn (f:Int) l) l (stepN (zpre f)) id (fun _ s=>s.length=l.length) (by omega) (fun n s i hi hs=>by
  rw [Zdn]
  simp only [show ((i:Int)<(l.length:Int)) from by omega,decide_true,if_true,Option.bind_some,wsucc (by omega:i<1000000000001)]
  rw [Z03 hf (show i<s.length by omega)]
  have h3:stepN (zpre f) s i l[i]=s.set i (zpre f s[i]):=by unfold stepN; rw [List.getElem?_eq_getElem (show i<s.length by omega)]
  rw [h3]
  exact⟨rfl,by rw [List.length_set]; exact hs⟩) (fun n s hs=>by rw [Zdn]; simp) l rfl
 have h2:=Zly (zpre f) l []
 rw [List.nil_append,List.nil_append,List.length_nil] at h2
 rw [this.1,h2]
 rfl
def lastG (f:Nat):Option Cell→Zg
 | none=>Zgy
 | some x=>gr1 f x
theorem Zwv {f:Nat} (hf:f<5) {z0:Int→List Bx→Option Bool}
  (hz:∀ l:List Bx,l.length≤1000000→(∀ x∈l,BOk x)→∃ r,z0 ((f + 1:Nat):Int) l=some r∧(r=true ↔ CF (tops5.drop (f + 1)) (l.map (sf (f + 1))))) :
  ∀(K n:Nat) (l:List Bx) (last:Option Cell),l.length≤K→K<n→l.length≤1000000→(∀ x∈l,BOk x)→(∀ y∈last,y.2 ≠ []∧y.2.length≤1000000∧0≤y.1.Hi∧y.1.Hi<4294967296∧∀ b∈y.2,b.length=5 - (f + 1)) →
  ∃ o,Zcd (f:Int) z0 n (lastG f last) l=some o∧((∃ c,l.map (sf f)=flt c∧Nx (topOf (f:Int)) (tops5.drop (f + 1)) last c)→∃ g,o=.inl g)∧(¬ (∃ c,l.map (sf f)=flt c∧Nx (topOf (f:Int)) (tops5.drop (f + 1)) last c)→o=.inr false):=by
 intro K
 induction K with
 | zero=>
  intro n l last hlK hn hl hok hlast
  have:l=[]:=List.length_eq_zero_iff.1 (by omega)
  subst this
  cases n with
  | zero=>omega
  | succ n=>
  rw [Zcd,if_neg (by simp)]
  exact⟨_,rfl,fun _=>⟨_,rfl⟩,fun h=>absurd ⟨[],rfl,Nx.nil ..⟩ h⟩
 | succ K ih=>
  intro n l last hlK hn hl hok hlast
  cases n with
  | zero=>omega
  | succ n=>
  cases hll:l with
  | nil=>
   rw [Zcd,if_neg (by simp)]
   exact⟨_,rfl,fun _=>⟨_,rfl⟩,fun h=>absurd ⟨[],rfl,Nx.nil ..⟩ h⟩
  | cons b0 l'=>
  have hne:l ≠ []:=by rw [hll]; exact List.cons_ne_nil _ _
  have hpos:0<l.length:=List.length_pos_iff.2 hne
  have h0:l[0]? = some b0:=by rw [hll]; rfl
  have i0:idx l (0:Int)=some b0:=by rw [show (0:Int)=((0:Nat):Int) from rfl,Z5 hpos,← List.getElem?_eq_getElem,h0]
  obtain⟨N,e1,g1,g2⟩:=Z2c hf hl h0 (l.length - 1) 1 fuel rfl (by unfold fuel; omega) (Nat.le_refl _) (by omega) (fun i h hi=>by
   have:i=0:=by omega
   subst this
   rw [List.getElem?_eq_getElem h,Option.some.injEq] at h0
   rw [h0])
  rw [← hll]
  obtain⟨s1,s2,s3⟩:=Zwe hf g1 g2 hne
  have hb0:BOk b0:=hok b0 (by rw [hll]; exact List.mem_cons_self ..)
  have hb0r:=hb0.at_ hf
  have htop:=topN hf
  rw [Zcd,if_pos (by simp; omega)]
  rw [show ((1:Nat):Int)=1 from rfl] at e1
  rw [e1]
  simp only [Option.bind_some,i0,Int.toNat_natCast,Int.toNat_zero,List.drop_zero]
  have hN:=g2.h1
  rw [if_pos ⟨by omega,by omega⟩,if_pos ⟨by omega,by omega,by omega⟩]
  have htl:(l.take N).length≤1000000:=by rw [List.length_take]; omega
  rw [Z04 hf (by omega)]
  simp only [Option.bind_some]
  rw [if_pos ⟨by omega,by omega,by omega⟩,wsucc (by omega)]
  obtain⟨rv,z1,z2⟩:=hz (l.take N) htl (fun x hx=>hok x (List.mem_of_mem_take hx))
  rw [z1]
  simp only [Option.bind_some]
  rw [s1]
  have hrun:=Nx.run (t:=topOf (f:Int)) (ts:=tops5.drop (f + 1)) (last:=last) (r:=b0.get (f:Int)) s2 s3
  rw [hrun]
  cases rv with
  | false=>
   simp only [Bool.not_false,if_true]
   have hncf:¬ CF (tops5.drop (f + 1)) ((l.take N).map (sf (f + 1))):=fun h=>by have:=z2.2 h; cases this
   exact⟨_,rfl,fun h=>absurd h.2.1 hncf,fun _=>rfl⟩
  | true=>
   simp only [Bool.not_true,Bool.false_eq_true,if_false]
   have hcf:=z2.1 rfl
   have hzl:∀ b∈(l.take N).map (sf (f + 1)),b.length=5 - (f + 1):=fun b hb=>by
    obtain⟨x,_,rfl⟩:=List.mem_map.1 hb
    exact sf_len (by omega) x
   have hzm:(l.take N).map (zpre f)=((l.take N).map (sf (f + 1))).map (pad (f + 1)):=by rw [List.map_map]; rfl
   have hgap:∃ og:Unit ⊕ Bool,(if decide (((lastG f last).f_rest.length:Int) > 0)=true then
      (if decide ((b0.get (f:Int)).Lo≤(lastG f last).f_values.Hi)=true then some true else
       (if ((b0.get (f:Int)).Lo == (IntKind.wrap .u32 ((lastG f last).f_values.Hi + (1:Int))))=true then
        (Zaq ((l.take N).map (zpre f)) (lastG f last).f_rest).bind fun(r223:Bool)=>
        some r223
        else some false).bind fun(v225:Bool)=>
       some v225
       ).bind fun(v227:Bool)=>
      if v227=true then
       (some (.inr false):Option (Unit ⊕ Bool))
      else
       some (.inl ())
     else
      some (.inl ()))=some og∧((∀ y∈last,gp y (b0.get (f:Int),(l.take N).map (sf (f + 1))))→og=.inl ())∧(¬ (∀ y∈last,gp y (b0.get (f:Int),(l.take N).map (sf (f + 1))))→og=.inr false):=by
    cases last with
    | none=>
     rw [if_neg (show ¬ decide (((lastG f none).f_rest.length:Int) > 0)=true from fun h=>by cases h)]
     exact⟨_,rfl,fun _=>rfl,fun h=>absurd (fun y hy=>by cases hy) h⟩
    | some y=>
     obtain⟨y1,y2,y3,y4,y5⟩:=hlast y rfl
     have hyl:0<y.2.length:=List.length_pos_iff.2 y1
     have hall:(∀ z∈some y,gp z (b0.get (f:Int),(l.take N).map (sf (f + 1)))) ↔ gp y (b0.get (f:Int),(l.take N).map (sf (f + 1))):=⟨fun h=>h y rfl,fun h z hz=>by cases hz; exact h⟩
     simp only [lastG,show (gr1 f y).f_rest=y.2.map (pad (f + 1)) from rfl,show (gr1 f y).f_values=y.1 from rfl,List.length_map]
     rw [if_pos (by simp; omega),hall]
     unfold gp
     by_cases c1:(b0.get (f:Int)).Lo≤y.1.Hi
     ·rw [if_pos (decide_eq_true c1)]
      simp only [Option.bind_some,if_true]
      exact⟨_,rfl,fun h=>by have:=h.1; omega,fun _=>rfl⟩
     ·rw [if_neg (by simpa using c1)]
      rw [wu32 (x:=y.1.Hi + 1) (by omega) (by omega)]
      by_cases c2:(b0.get (f:Int)).Lo=y.1.Hi + 1
      ·rw [if_pos (by simpa using c2),Zxx (by rw [List.length_map]; omega),hzm]
       have hmi:=Znu (f:=f + 1) (by omega) hzl y5
       simp only [Option.bind_some,decide_eq_true_eq,hmi]
       by_cases c3:(l.take N).map (sf (f + 1))=y.2
       ·rw [if_pos c3]
        exact⟨_,rfl,fun h=>absurd c3.symm (h.2 (by omega)),fun _=>rfl⟩
       ·rw [if_neg c3]
        exact⟨_,rfl,fun _=>rfl,fun h=>absurd ⟨by omega,fun _ h=>c3 h.symm⟩ h⟩
      ·rw [if_neg (by simpa using c2)]
       simp only [Option.bind_some,Bool.false_eq_true,if_false]
       exact⟨_,rfl,fun _=>rfl,fun h=>absurd ⟨by omega,fun h=>absurd h.symm c2⟩ h⟩
   obtain⟨og,og1,og2,og3⟩:=hgap
   rw [og1]
   by_cases hg:∀ y∈last,gp y (b0.get (f:Int),(l.take N).map (sf (f + 1)))
   ·rw [og2 hg]
    simp only [Option.bind_some]
    rw [if_pos ⟨by omega,by omega,by omega⟩,List.take_length]
    rw [show (Zg.mk (b0.get (f:Int)) ((l.take N).map (zpre f)))=lastG f (some (b0.get (f:Int),(l.take N).map (sf (f + 1)))) by rw [hzm]; rfl]
    obtain⟨o,o1,o2,o3⟩:=ih n (l.drop N) (some (b0.get (f:Int),(l.take N).map (sf (f + 1)))) (by rw [List.length_drop]; omega) (by omega) (by rw [List.length_drop]; omega) (fun x hx=>hok x (List.mem_of_mem_drop hx)) (fun y hy=>by
     cases hy
     refine⟨s2,by rw [List.length_map]; exact htl,by show 0≤(b0.get (f:Int)).Hi; omega,by show (b0.get (f:Int)).Hi<4294967296; omega,hzl⟩)
    refine⟨o,o1,fun h=>o2 h.2.2.2,fun h=>o3 fun h2=>h ⟨⟨by omega,by omega,by omega⟩,hcf,hg,h2⟩⟩
   ·rw [og3 hg]
    simp only [Option.bind_some]
    exact⟨_,rfl,fun h=>absurd h.2.2.1 hg,fun _=>rfl⟩
theorem Z0f:∀(k f nr:Nat) (l:List Bx),f + k=5→k<nr→l.length≤1000000→(∀ x∈l,BOk x)→∃ r,Zbp nr (f:Int) l=some r∧(r=true ↔ CF (tops5.drop f) (l.map (sf f))):=by
 intro k
 induction k with
 | zero=>
  intro f nr l hf hn hl hok
  have:f=5:=by omega
  subst this
  cases nr with
  | zero=>omega
  | succ nr=>
  rw [Zbp,if_pos (by decide)]
  refine⟨_,rfl,?_⟩
  show _ ↔ (l.map (sf 5)=[]∨l.map (sf 5)=[[]])
  rcases l with _ | ⟨x,_ | ⟨y,l⟩⟩
  ·simp
  ·exact⟨fun _=>Or.inr rfl,fun _=>by simp⟩
  ·constructor
   ·intro h; simp at h; omega
   ·rintro(h | h) <;> simp at h
 | succ k ih=>
  intro f nr l hf hn hl hok
  have hf5:f<5:=by omega
  cases nr with
  | zero=>omega
  | succ nr=>
  rw [Zbp,if_neg (by simp; omega),Zm9 hf5,CF_iff]
  obtain⟨o,o1,o2,o3⟩:=Zwv hf5 (z0:=Zbp nr) (fun l hl hok=>ih (f + 1) nr l (by omega) (by omega) hl hok) l.length fuel l none (Nat.le_refl _) (by unfold fuel; omega) hl hok (fun y hy=>(by cases hy))
  rw [show lastG f none=Zgy from rfl] at o1
  rw [o1]
  by_cases h:∃ c,l.map (sf f)=flt c∧Nx (topOf (f:Int)) (tops5.drop (f + 1)) none c
  ·obtain⟨g,rfl⟩:=o2 h
   exact⟨true,rfl,fun _=>h,fun _=>rfl⟩
  ·rw [o3 h]
   exact⟨false,rfl,fun h=>(by cases h),fun h2=>absurd h2 h⟩
structure VS (l:List Bx):Prop where
 len:l.length≤4096
 ok:∀ x∈l,BOk x
 cf:CFb l
theorem VS.of {l:List Bx} (h:CFb l) (hl:l.length≤4096):VS l:=⟨hl,h.ok,h⟩
theorem Znb {l:List Bx} (hin:∀ x∈l,BIn x):(l.filter vB).length=l.length ↔ ∀ x∈l,BOk x:=by
 rw [List.length_filter_eq_length_iff]
 exact⟨fun h x hx=>vB_ok (hin x hx) (h x hx),fun h x hx=>ok_vB (h x hx)⟩
theorem Z05 {l:List Bx} (hl:l.length≤1000000) (hin:∀ x∈l,BIn x):∃ r,Zeo l=some r∧(r=true ↔ VS l):=by
 unfold Zeo
 by_cases h1:l.length≤4096
 ·have hd:decide ((l.length:Int)≤4096)=true:=by simp; omega
  rw [hd]
  simp only [Option.bind_some,if_true]
  rw [Zwb (by omega)]
  simp only [Option.bind_some]
  by_cases h2:∀ x∈l,BOk x
  ·have he:(((l.filter vB).length:Int) == (l.length:Int))=true:=by rw [(Znb hin).2 h2]; simp
   rw [he]
   simp only [if_true]
   obtain⟨r,e,g⟩:=Z0f 5 0 fuel l (by omega) (by unfold fuel; omega) hl h2
   rw [show ((0:Nat):Int)=0 from rfl] at e
   rw [e]
   refine⟨r,rfl,g.trans ⟨fun h=>⟨h1,h2,h⟩,fun h=>h.cf⟩⟩
  ·have he:(((l.filter vB).length:Int) == (l.length:Int))=false:=by
    have h3:¬ (l.filter vB).length=l.length:=fun h=>h2 ((Znb hin).1 h)
    simp only [beq_eq_false_iff_ne,ne_eq]
    omega
   rw [he]
   exact⟨false,rfl,fun h=>(by cases h),fun h=>absurd h.ok h2⟩
 ·have hd:decide ((l.length:Int)≤4096)=false:=by simp; omega
  rw [hd]
  exact⟨false,rfl,fun h=>(by cases h),fun h=>absurd h.len h1⟩
end Go.AM
set_option maxRecDepth 100000
namespace Go.AM
open Go
theorem Z06 {a b:List Bx} {i:Nat} {x y:Bx} (hx:idx a (i:Int)=some x) (hy:idx b (i:Int)=some y):∀(k f n:Nat),f + k=5→k<n→Zee a b (i:Int) n (f:Int)=some (if sf f x=sf f y then .inl () else .inr false):=by
 intro k
 induction k with
 | zero=>
  intro f n hf hn
  cases n with
  | zero=>omega
  | succ n=>
  have:f=5:=by omega
  subst this
  rw [Zee,if_neg (by decide),if_pos (show sf 5 x=sf 5 y from rfl)]
 | succ k ih=>
  intro f n hf hn
  cases n with
  | zero=>omega
  | succ n=>
  have hf5:f<5:=by omega
  rw [Zee,if_pos (by simp; omega),hx,hy]
  simp only [Option.bind_some]
  rw [if_pos ⟨by omega,by omega⟩,if_pos ⟨by omega,by omega⟩,wsucc (by omega),ih (f + 1) n (by omega) (by omega),eq_rg]
  rw [Zlc hf5 x,Zlc hf5 y]
  by_cases h:x.get (f:Int)=y.get (f:Int)
  ·simp [h]
  ·simp [h]
theorem Zwf {α β:Type} [DecidableEq β] (g:α→β):∀(l pre b:List α),l.length + pre.length=b.length→findI (fun i x=>if (b[i]?).map g=some (g x) then none else some false) pre.length l=if l.map g=(b.drop pre.length).map g then none else some false
 | [],pre,b,h=>by simp at h; rw [h]; simp [findI]
 | x :: l,pre,b,h=>by
  simp only [List.length_cons] at h
  have hi:pre.length<b.length:=by omega
  rw [List.drop_eq_getElem_cons hi]
  simp only [findI,List.getElem?_eq_getElem hi,Option.map_some,List.map_cons,List.cons.injEq,Option.some.injEq]
  by_cases e:g b[pre.length]=g x
  ·rw [if_pos e]
   simp only [e,true_and]
   have:=Zwf g l (pre++[x]) b (by simp; omega)
   simp only [List.length_append,List.length_singleton] at this
   exact this
  ·rw [if_neg e,if_neg (fun h=>e h.1.symm)]
theorem Z2d {a b:List Bx} (ha:a.length≤1000000000000) {f:Nat} (hf:f≤5):Zgo a b (f:Int)=some (decide (a.map (sf f)=b.map (sf f))):=by
 unfold Zgo
 by_cases hl:a.length=b.length
 ·rw [if_neg (by simp [hl])]
  rw [Zh1 (L:=Zef a b (f:Int)) a (fun i x=>if (b[i]?).map (sf f)=some (sf f x) then none else some false) ha (fun n i hi=>by
   have hj:i<b.length:=by omega
   rw [Zef,if_pos (by simp; omega),Z06 (Z5 hi) (Z5 hj) (5 - f) f fuel (by omega) (by unfold fuel; omega)]
   simp only [Option.bind_some,List.getElem?_eq_getElem hj,Option.map_some,Option.some.injEq,wsucc (by omega:i<1000000000001)]
   by_cases e:sf f a[i]=sf f b[i]
   ·rw [if_pos e,if_pos e.symm]
   ·rw [if_neg e,if_neg (fun h=>e h.symm)]) (fun n=>by rw [Zef]; simp)]
  have:=Zwf (sf f) a [] b (by simpa using hl)
  simp only [List.length_nil,List.drop_zero] at this
  rw [this]
  by_cases e:a.map (sf f)=b.map (sf f)
  ·simp [e,orS]
  ·simp [e,orS]
 ·rw [if_pos (by simp; omega)]
  rw [decide_eq_false (fun e=>hl (by have:=congrArg List.length e; simpa using this))]
theorem Z3h {f:Nat} (hf:f<5) {a0 l:List Bx} {from_:Nat} (hd:a0.drop from_=l) (hle:from_≤a0.length) (hl:a0.length≤1000000) {b0:Bx} (h0:l[0]? = some b0):∀(k j n:Nat),l.length - j=k→k<n→j≤l.length→(∀ i (h:i<l.length),i<j→(l[i]).get (f:Int)=b0.get (f:Int)) →
  ∃ N:Nat,Zc5 a0 (f:Int) (from_:Int) n ((from_ + j:Nat):Int)=some ((from_ + N:Nat):Int)∧j≤N∧RunTo f l (b0.get (f:Int)) N:=by
 have hlen:l.length=a0.length - from_:=by rw [← hd,List.length_drop]
 have gi:∀ j,l[j]? = a0[from_ + j]?:=fun j=>by rw [← hd,List.getElem?_drop]
 have hpos:0<l.length:=by
  rcases l with _ | ⟨x,l⟩
  ·simp at h0
  ·simp
 have gx:∀ j (h:j<l.length),idx a0 ((from_ + j:Nat):Int)=some l[j]:=fun j h=>by
  rw [Z5 (by omega),← List.getElem?_eq_getElem,← gi,List.getElem?_eq_getElem h]
 have i0:idx a0 (from_:Int)=some b0:=by
  have:=gx 0 hpos
  rw [Nat.add_zero] at this
  rw [this,← List.getElem?_eq_getElem,h0]
 intro k
 induction k with
 | zero=>
  intro j n hk hn hj he
  cases n with
  | zero=>omega
  | succ n=>
  have hd:decide (((from_ + j:Nat):Int)<(a0.length:Int))=false:=by simp; omega
  rw [Zc5,hd]
  exact⟨j,rfl,Nat.le_refl _,hj,he,fun h=>by omega⟩
 | succ k ih=>
  intro j n hk hn hj he
  cases n with
  | zero=>omega
  | succ n=>
  have hjl:j<l.length:=by omega
  have hd:decide (((from_ + j:Nat):Int)<(a0.length:Int))=true:=by simp; omega
  rw [Zc5,hd]
  simp only [Option.bind_some,if_true,gx j hjl,i0]
  rw [if_pos ⟨by omega,by omega⟩,if_pos ⟨by omega,by omega⟩]
  simp only [Option.bind_some]
  by_cases hq:(l[j]).get (f:Int)=b0.get (f:Int)
  ·rw [if_pos (Zna.2 hq),wsucc (by omega)]
   obtain⟨N,e,g1,g2⟩:=ih (j + 1) n (by omega) (by omega) (by omega) (fun i h hi=>by
    rcases Nat.lt_or_eq_of_le (Nat.lt_succ_iff.1 hi) with h2 | h2
    ·exact he i h h2
    ·subst h2; exact hq)
   exact⟨N,e,by omega,g2⟩
  ·rw [if_neg (fun h=>hq (Zna.1 h))]
   exact⟨j,rfl,Nat.le_refl _,hj,he,fun _=>hq⟩
def LastR (f:Nat) (pre v:List Bx):Option Cell→Prop
 | none=>pre=[]
 | some y=>v.map (sf (f + 1))=y.2∧∃ p0 b,pre=p0++[b]∧b.get (f:Int)=y.1
theorem Zun {f:Nat} (hf:f<5) {a0:List Bx} (hal:a0.length≤1000000) (hok:∀ x∈a0,BOk x) {z0:List Bx→Int→Option Bool}
  (hz:∀ l:List Bx,l ≠ []→l.length≤1000000→(∀ x∈l,BOk x)→∃ r,z0 l ((f + 1:Nat):Int)=some r∧(r=true ↔ CF (tops5.drop (f + 1)) (l.map (sf (f + 1))))) :
  ∀(K n:Nat) (pre l v:List Bx) (last:Option Cell),l.length≤K→K<n→a0=pre++l→LastR f pre v last→(∀ y∈last,y.2 ≠ []∧0≤y.1.Hi∧y.1.Hi<4294967296)→v.length≤1000000 →
  ∃ o,Zcf a0 (f:Int) z0 n v (pre.length:Int)=some o∧((∃ c,l.map (sf f)=flt c∧Nx (topOf (f:Int)) (tops5.drop (f + 1)) last c)→o=.inl ())∧(¬ (∃ c,l.map (sf f)=flt c∧Nx (topOf (f:Int)) (tops5.drop (f + 1)) last c)→o=.inr false):=by
 intro K
 induction K with
 | zero=>
  intro n pre l v last hlK hn ha hl hlast hv
  have:l=[]:=List.length_eq_zero_iff.1 (by omega)
  subst this
  cases n with
  | zero=>omega
  | succ n=>
  rw [Zcf,if_neg (by rw [ha]; simp)]
  exact⟨_,rfl,fun _=>rfl,fun h=>absurd ⟨[],rfl,Nx.nil ..⟩ h⟩
 | succ K ih=>
  intro n pre l v last hlK hn ha hl hlast hv
  cases n with
  | zero=>omega
  | succ n=>
  cases hll:l with
  | nil=>
   rw [Zcf,if_neg (by rw [ha,hll]; simp)]
   exact⟨_,rfl,fun _=>rfl,fun h=>absurd ⟨[],rfl,Nx.nil ..⟩ h⟩
  | cons b0 l'=>
  have hne:l ≠ []:=by rw [hll]; exact List.cons_ne_nil _ _
  have hpos:0<l.length:=List.length_pos_iff.2 hne
  have halen:a0.length=pre.length + l.length:=by rw [ha,List.length_append]
  have h0:l[0]? = some b0:=by rw [hll]; rfl
  have hdrop:a0.drop pre.length=l:=by rw [ha,List.drop_left' rfl]
  have i0:idx a0 (pre.length:Int)=some b0:=by
   rw [Z5 (by omega),← List.getElem?_eq_getElem,← Nat.add_zero pre.length,← List.getElem?_drop,hdrop,h0]
  obtain⟨N,e1,_,g2⟩:=Z3h hf hdrop (by omega) hal h0 l.length 0 fuel rfl (by unfold fuel; omega) (by omega) (fun i h hi=>by omega)
  have g1:1≤N:=by
   rcases Nat.eq_zero_or_pos N with h | h
   ·subst h
    have:=g2.ne hpos
    rw [List.getElem?_eq_getElem hpos,Option.some.injEq] at h0
    rw [h0] at this
    exact absurd rfl this
   ·exact h
  rw [← hll]
  obtain⟨s1,s2,s3⟩:=Zwe hf g1 g2 hne
  have hlok:∀ x∈l,BOk x:=fun x hx=>hok x (by rw [ha]; exact List.mem_append_right _ hx)
  have hb0:BOk b0:=hlok b0 (by rw [hll]; exact List.mem_cons_self ..)
  have hb0r:=hb0.at_ hf
  have htop:=topN hf
  have hN:=g2.h1
  have hpart:List.drop pre.length (List.take (pre.length + N) a0)=l.take N:=by rw [ha,List.take_length_add_append,List.drop_left' rfl]
  rw [Zcf,if_pos (by simp; omega)]
  rw [Nat.add_zero] at e1
  rw [e1]
  simp only [Option.bind_some,i0,Int.toNat_natCast,hpart]
  rw [if_pos ⟨by omega,by omega,by omega⟩]
  have htl:(l.take N).length≤1000000:=by rw [List.length_take]; omega
  rw [wsucc (i:=f) (by omega)]
  have hrun:=Nx.run (t:=topOf (f:Int)) (ts:=tops5.drop (f + 1)) (last:=last) (r:=b0.get (f:Int)) s2 s3
  rw [s1,hrun]
  have hgap:∃ og:Unit ⊕ Bool,(if decide ((pre.length:Int) > 0)=true then
     (idx a0 (IntKind.wrap .i64 ((pre.length:Int) - (1:Int)))).bind fun(x312:Bx)=>
     if 0≤(f:Int)∧(f:Int)<5 then
     if 0≤(f:Int)∧(f:Int)<5 then
     (if decide ((b0.get (f:Int)).Lo≤(x312.get (f:Int)).Hi)=true then some true else
      (if ((b0.get (f:Int)).Lo == (IntKind.wrap .u32 ((x312.get (f:Int)).Hi + (1:Int))))=true then
       (Zgo v (l.take N) ((f + 1:Nat):Int)).bind fun(r322:Bool)=>
       some r322
       else some false).bind fun(v324:Bool)=>
      some v324
      ).bind fun(v326:Bool)=>
     if v326=true then
      (some (.inr false):Option (Unit ⊕ Bool))
     else
      some (.inl ())
     else none
     else none
    else
     some (.inl ()))=some og∧((∀ y∈last,gp y (b0.get (f:Int),(l.take N).map (sf (f + 1))))→og=.inl ())∧(¬ (∀ y∈last,gp y (b0.get (f:Int),(l.take N).map (sf (f + 1))))→og=.inr false):=by
   cases last with
   | none=>
    have hp:pre=[]:=hl
    rw [hp,if_neg (by decide)]
    exact⟨_,rfl,fun _=>rfl,fun h=>absurd (fun y hy=>by cases hy) h⟩
   | some y=>
    obtain⟨hv2,p0,b,hp,hbr⟩:=hl
    obtain⟨y1,y3,y4⟩:=hlast y rfl
    have hall:(∀ z∈some y,gp z (b0.get (f:Int),(l.take N).map (sf (f + 1)))) ↔ gp y (b0.get (f:Int),(l.take N).map (sf (f + 1))):=⟨fun h=>h y rfl,fun h z hz=>by cases hz; exact h⟩
    have hplen:pre.length=p0.length + 1:=by rw [hp,List.length_append]; rfl
    have ib:idx a0 (IntKind.wrap .i64 ((pre.length:Int) - (1:Int)))=some b:=by
     rw [wi64 (by omega) (by omega),hplen,show ((p0.length + 1:Nat):Int) - 1=((p0.length:Nat):Int) by omega,Z5 (by omega),← List.getElem?_eq_getElem,ha,hp]
     rw [List.append_assoc,List.getElem?_append_right (Nat.le_refl _),Nat.sub_self]
     rfl
    rw [if_pos (by simp; omega),ib]
    simp only [Option.bind_some]
    rw [if_pos ⟨by omega,by omega⟩,if_pos ⟨by omega,by omega⟩,hbr,hall]
    unfold gp
    by_cases c1:(b0.get (f:Int)).Lo≤y.1.Hi
    ·rw [if_pos (decide_eq_true c1)]
     simp only [Option.bind_some,if_true]
     exact⟨_,rfl,fun h=>by have:=h.1; omega,fun _=>rfl⟩
    ·rw [if_neg (by simpa using c1)]
     rw [wu32 (x:=y.1.Hi + 1) (by omega) (by omega)]
     by_cases c2:(b0.get (f:Int)).Lo=y.1.Hi + 1
     ·rw [if_pos (by simpa using c2),Z2d (by omega) (by omega),hv2]
      simp only [Option.bind_some,decide_eq_true_eq]
      by_cases c3:y.2=(l.take N).map (sf (f + 1))
      ·rw [if_pos c3]
       exact⟨_,rfl,fun h=>absurd c3 (h.2 (by omega)),fun _=>rfl⟩
      ·rw [if_neg c3]
       exact⟨_,rfl,fun _=>rfl,fun h=>absurd ⟨by omega,fun _=>c3⟩ h⟩
     ·rw [if_neg (by simpa using c2)]
      simp only [Option.bind_some,Bool.false_eq_true,if_false]
      exact⟨_,rfl,fun _=>rfl,fun h=>absurd ⟨by omega,fun h=>absurd h.symm c2⟩ h⟩
  obtain⟨og,og1,og2,og3⟩:=hgap
  rw [og1]
  by_cases hg:∀ y∈last,gp y (b0.get (f:Int),(l.take N).map (sf (f + 1)))
  ·rw [og2 hg]
   simp only [Option.bind_some]
   obtain⟨rv,z1,z2⟩:=hz (l.take N) (fun h=>s2 (by rw [h]; rfl)) htl (fun x hx=>hlok x (List.mem_of_mem_take hx))
   rw [z1]
   simp only [Option.bind_some]
   cases rv with
   | false=>
    simp only [Bool.not_false,if_true,Option.bind_some]
    have hncf:¬ CF (tops5.drop (f + 1)) ((l.take N).map (sf (f + 1))):=fun h=>by have:=z2.2 h; cases this
    exact⟨_,rfl,fun h=>absurd h.2.1 hncf,fun _=>rfl⟩
   | true=>
    simp only [Bool.not_true,Bool.false_eq_true,if_false,Option.bind_some]
    have hcf:=z2.1 rfl
    have hN2:(l.take N).length=N:=by rw [List.length_take]; omega
    have hpl:(pre++l.take N).length=pre.length + N:=by rw [List.length_append,hN2]
    rw [hN2,wi64 (by omega) (by omega),show (pre.length:Int) + (N:Int)=(((pre++l.take N).length:Nat):Int) by rw [hpl]; omega]
    have hlr:LastR f (pre++l.take N) (l.take N) (some (b0.get (f:Int),(l.take N).map (sf (f + 1)))):=by
     refine⟨rfl,pre++l.take (N - 1),(l[N - 1]'(by omega)),?_,g2.eq (N - 1) (by omega) (by omega)⟩
     rw [List.append_assoc]
     congr 1
     obtain⟨M,rfl⟩:∃ M,N=M + 1:=⟨N - 1,by omega⟩
     rw [List.take_add_one,List.getElem?_eq_getElem (by omega)]
     rfl
    obtain⟨o,o1,o2,o3⟩:=ih n (pre++l.take N) (l.drop N) (l.take N) (some (b0.get (f:Int),(l.take N).map (sf (f + 1)))) (by rw [List.length_drop]; omega) (by omega) (by rw [List.append_assoc,List.take_append_drop,ha]) hlr (fun y hy=>by
     cases hy
     exact⟨s2,by show 0≤(b0.get (f:Int)).Hi; omega,by show (b0.get (f:Int)).Hi<4294967296; omega⟩) htl
    refine⟨o,o1,fun h=>o2 h.2.2.2,fun h=>o3 fun h2=>h ⟨⟨by omega,by omega,by omega⟩,hcf,hg,h2⟩⟩
  ·rw [og3 hg]
   simp only [Option.bind_some]
   exact⟨_,rfl,fun h=>absurd h.2.2.1 hg,fun _=>rfl⟩
theorem Zx7:∀(k f nr:Nat) (l:List Bx),f + k=5→k<nr→(f=5→l ≠ [])→l.length≤1000000→(∀ x∈l,BOk x)→∃ r,Zbq nr l (f:Int)=some r∧(r=true ↔ CF (tops5.drop f) (l.map (sf f))):=by
 intro k
 induction k with
 | zero=>
  intro f nr l hf hn hne hl hok
  have:f=5:=by omega
  subst this
  cases nr with
  | zero=>omega
  | succ nr=>
  rw [Zbq,if_pos (by decide)]
  refine⟨_,rfl,?_⟩
  show _ ↔ (l.map (sf 5)=[]∨l.map (sf 5)=[[]])
  rcases l with _ | ⟨x,_ | ⟨y,l⟩⟩
  ·exact absurd rfl (hne rfl)
  ·exact⟨fun _=>Or.inr rfl,fun _=>by simp⟩
  ·constructor
   ·intro h; simp at h; omega
   ·rintro(h | h) <;> simp at h
 | succ k ih=>
  intro f nr l hf hn hne hl hok
  have hf5:f<5:=by omega
  cases nr with
  | zero=>omega
  | succ nr=>
  rw [Zbq,if_neg (by simp; omega),Zm9 hf5,CF_iff]
  obtain⟨o,o1,o2,o3⟩:=Zun hf5 hl hok (z0:=Zbq nr) (fun l hne hl hok=>ih (f + 1) nr l (by omega) (by omega) (fun _=>hne) hl hok) l.length fuel [] l [] none (Nat.le_refl _) (by unfold fuel; omega) rfl rfl (fun y hy=>(by cases hy)) (by simp)
  rw [show (([]:List Bx).length:Int)=0 from rfl] at o1
  rw [o1]
  by_cases h:∃ c,l.map (sf f)=flt c∧Nx (topOf (f:Int)) (tops5.drop (f + 1)) none c
  ·rw [o2 h]
   exact⟨true,rfl,fun _=>h,fun _=>rfl⟩
  ·rw [o3 h]
   exact⟨false,rfl,fun h=>(by cases h),fun h2=>absurd h2 h⟩
theorem Z0g {l:List Bx} (hl:l.length≤1000000) (hin:∀ x∈l,BIn x):∃ r,Zgp l=some r∧(r=true ↔ VS l):=by
 unfold Zgp
 by_cases h1:l.length≤4096
 ·have hd:decide ((l.length:Int)≤4096)=true:=by simp; omega
  rw [hd]
  simp only [Option.bind_some,if_true]
  rw [Zwa (by omega)]
  simp only [Option.bind_some]
  by_cases h2:∀ x∈l,BOk x
  ·have he:(((l.filter vB).length:Int) == (l.length:Int))=true:=by rw [(Znb hin).2 h2]; simp
   rw [he]
   simp only [if_true]
   obtain⟨r,e,g⟩:=Zx7 5 0 fuel l (by omega) (by unfold fuel; omega) (by omega) hl h2
   rw [show ((0:Nat):Int)=0 from rfl] at e
   rw [e]
   refine⟨r,rfl,g.trans ⟨fun h=>⟨h1,h2,h⟩,fun h=>h.cf⟩⟩
  ·have he:(((l.filter vB).length:Int) == (l.length:Int))=false:=by
    have h3:¬ (l.filter vB).length=l.length:=fun h=>h2 ((Znb hin).1 h)
    simp only [beq_eq_false_iff_ne,ne_eq]
    omega
   rw [he]
   exact⟨false,rfl,fun h=>(by cases h),fun h=>absurd h.ok h2⟩
 ·have hd:decide ((l.length:Int)≤4096)=false:=by simp; omega
  rw [hd]
  exact⟨false,rfl,fun h=>(by cases h),fun h=>absurd h.len h1⟩
end Go.AM
set_option maxRecDepth 100000
namespace Go.AM
open Go
def sumL {α:Type} (f:α→Nat) (l:List α):Nat:=l.foldr (fun x n=>f x + n) 0
theorem Zff {α:Type} (f:α→Nat) (x:α) (l:List α):sumL f (x :: l)=f x + sumL f l:=rfl
theorem Zo1 {α:Type} (f g:α→Nat) (l:List α):sumL (fun x=>f x + g x) l=sumL f l + sumL g l:=by
 induction l with
 | nil=>rfl
 | cons x l ih=>rw [Zff,Zff,Zff,ih]; omega
theorem Zzk {α:Type} {f g:α→Nat} {l:List α} (h:∀ x∈l,f x≤g x):sumL f l≤sumL g l:=by
 induction l with
 | nil=>exact Nat.le_refl _
 | cons x l ih=>
  rw [Zff,Zff]
  have:=h x (List.mem_cons_self ..)
  have:=ih fun y hy=>h y (List.mem_cons_of_mem _ hy)
  omega
theorem Zs7 {α:Type} (k:Nat) (f:α→Nat) (l:List α):sumL (fun x=>k * f x) l=k * sumL f l:=by
 induction l with
 | nil=>rfl
 | cons x l ih=>rw [Zff,Zff,ih,Nat.mul_add]
theorem Zzl {α:Type} (p:α→Bool) (f:α→Nat) (l:List α):sumL (fun x=>if p x=true then f x else 0) l=sumL f (l.filter p):=by
 induction l with
 | nil=>rfl
 | cons x l ih=>
  rw [Zff,ih,List.filter_cons]
  cases p x
  ·simp
  ·simp [Zff]
theorem Zo2 {α:Type} (k:Nat) (l:List α):sumL (fun _=>k) l=l.length * k:=by
 induction l with
 | nil=>simp [sumL]
 | cons x l ih=>rw [Zff,ih,List.length_cons,Nat.succ_mul]; omega
theorem Zzm (c:List Cell):(flt c).length=sumL (fun x=>x.2.length) c:=by
 induction c with
 | nil=>rfl
 | cons x c ih=>rw [Zh3,List.length_append,List.length_map,ih,Zff]
theorem Zr9 (x:Cell) (d:List Cell) (v:Int):(lk (x :: d) v).length=(if inR v x.1=true then x.2.length else 0) + (lk d v).length:=by
 rw [Zjh,List.length_append]
 cases inR v x.1 <;> simp
theorem sum_lk {M:Nat} (vs:List Int):∀(d:List Cell),(∀ x∈d,(vs.filter (inR · x.1)).length≤M)→sumL (fun v=>(lk d v).length) vs≤M * (flt d).length
 | [],_=>by
  have:sumL (fun v=>(lk ([]:List Cell) v).length) vs=0:=by
   rw [show (fun v:Int=>(lk ([]:List Cell) v).length)=fun _=>0 from rfl,Zo2]; simp
  omega
 | x :: d,h=>by
  have e:(fun v=>(lk (x :: d) v).length)=fun v=>(if inR v x.1=true then x.2.length else 0) + (lk d v).length:=funext fun v=>Zr9 x d v
  have ih:=sum_lk vs d fun y hy=>h y (List.mem_cons_of_mem _ hy)
  have hx:=h x (List.mem_cons_self ..)
  rw [e,Zo1,Zzl (fun v=>inR v x.1),Zo2,Zh3,List.length_append,List.length_map,Nat.mul_add]
  have:=Nat.mul_le_mul_right x.2.length hx
  omega
theorem Zzn (vs:List Int) (d':List Cell):∀(d:List Cell),(∀ x∈d,∀ y∈d',((vs.filter (inR · x.1)).filter (inR · y.1)).length≤1)→sumL (fun v=>(lk d v).length * (lk d' v).length) vs≤(flt d).length * (flt d').length
 | [],_=>by
  have:sumL (fun v=>(lk ([]:List Cell) v).length * (lk d' v).length) vs=0:=by
   rw [show (fun v:Int=>(lk ([]:List Cell) v).length * (lk d' v).length)=fun v=>0 * (lk d' v).length from rfl,Zs7]; simp
  omega
 | x :: d,h=>by
  have e:(fun v=>(lk (x :: d) v).length * (lk d' v).length)=fun v=>(if inR v x.1=true then x.2.length * (lk d' v).length else 0) + (lk d v).length * (lk d' v).length:=funext fun v=>by
   rw [Zr9,Nat.add_mul]
   cases inR v x.1 <;> simp
  have ih:=Zzn vs d' d fun y hy=>h y (List.mem_cons_of_mem _ hy)
  have h1:=sum_lk (M:=1) (vs.filter (inR · x.1)) d' fun y hy=>h x (List.mem_cons_self ..) y hy
  rw [e,Zo1,Zzl (fun v=>inR v x.1) (fun v=>x.2.length * (lk d' v).length),Zs7,Zh3,List.length_append,List.length_map,Nat.add_mul]
  have:=Nat.mul_le_mul_left x.2.length h1
  rw [Nat.one_mul] at this
  omega
theorem Zq0 {l:List Int} (h:l.Pairwise (·<·)):l.Nodup:=h.imp fun h=>by omega
def ends2 (c:List Cell):List Int:=c.flatMap fun x=>[x.1.Lo,x.1.Hi + 1]
theorem Z07 (c:List Cell):(ends2 c).length=2 * c.length:=by
 induction c with
 | nil=>rfl
 | cons x c ih=>unfold ends2 at *; rw [List.flatMap_cons,List.length_append,ih]; simp; omega
theorem Zs8 {t:Int} {c:List Cell} (h:Ord t c) {x:Cell} (hx:x∈c) {v:Int} (hv:v∈ends2 c) (hr:inR v x.1=true):v=x.1.Lo:=by
 rw [Zgt] at hr
 obtain⟨y,hy,hvy⟩:=List.mem_flatMap.1 hv
 have hxo:=h.ok x hx
 have hyo:=h.ok y hy
 obtain⟨i,hi,rfl⟩:=List.getElem_of_mem hx
 obtain⟨j,hj,rfl⟩:=List.getElem_of_mem hy
 have hp:=List.pairwise_iff_getElem.1 h.pw
 simp only [List.mem_cons,List.not_mem_nil,or_false] at hvy
 rcases Nat.lt_trichotomy i j with h1 | h1 | h1
 ·have:=(hp i j hi hj h1).1
  omega
 ·subst h1; omega
 ·have:=(hp j i hj hi h1).1
  omega
theorem Zzo {t:Int} {c:List Cell} (h:Ord t c) {v:Int} (hv:¬ v∈ends2 c):lk c v=lk c (v - 1):=by
 have key:∀ x∈c,x.1.Lo ≠ v∧x.1.Hi + 1 ≠ v:=fun x hx=>⟨fun e=>hv (List.mem_flatMap.2 ⟨x,hx,by simp [e]⟩),fun e=>hv (List.mem_flatMap.2 ⟨x,hx,by simp [e]⟩)⟩
 clear h hv
 induction c with
 | nil=>rfl
 | cons x c ih=>
  rw [Zjh,Zjh,ih fun y hy=>key y (List.mem_cons_of_mem _ hy)]
  have:=key x (List.mem_cons_self ..)
  have e:inR v x.1=inR (v - 1) x.1:=by rw [Bool.eq_iff_iff,Zgt,Zgt]; omega
  rw [e]
theorem Zuo {op:Bool→Bool→Bool} (hff:op false false=false):∀(ts:List Int) {a b l:List RL},CF ts a→CF ts b→Is op ts a b l→l.length≤4 * ts.length * (a.length * b.length) + a.length + b.length
 | [],a,b,l,ha,hb,h=>by
  have hm:=h.mem [] trivial
  rcases ha with rfl | rfl <;> rcases hb with rfl | rfl <;> rcases h.cf with rfl | rfl <;> simp [mS,mB,hff] at hm ⊢
 | t :: ts,a,b,l,ha,hb,h=>by
  obtain⟨ca,rfl,hao,hac⟩:=ha
  obtain⟨cb,rfl,hbo,hbc⟩:=hb
  obtain⟨c,rfl,ho,hc⟩:=h.cf
  have hat:∀ v,0≤v→v≤t→Is op ts (lk ca v) (lk cb v) (lk c v):=fun v h0 h1=>by
   have:=Is.at_ ho hc h h0 h1
   rw [Zl2,Zl2] at this
   exact this
  have hvs:(c.map (·.1.Lo)).Pairwise (·<·):=by
   rw [List.pairwise_map]
   refine List.Pairwise.imp_of_mem ?_ ho.pw
   intro x y hx _ hg
   have:=ho.ok x hx
   have:=hg.1
   omega
  have hin:∀ v∈c.map (·.1.Lo),v∈ends2 ca∨v∈ends2 cb:=by
   intro v hv
   obtain⟨x,hx,rfl⟩:=List.mem_map.1 hv
   have hxo:=ho.ok x hx
   apply Classical.byContradiction
   intro hn
   have h1:¬ x.1.Lo∈ends2 ca:=fun h=>hn (Or.inl h)
   have h2:¬ x.1.Lo∈ends2 cb:=fun h=>hn (Or.inr h)
   have e1:=Zzo hao h1
   have e2:=Zzo hbo h2
   have hx1:lk c x.1.Lo=x.2:=lk_mem ho hx (Int.le_refl _) hxo.2.1
   have g1:=hat x.1.Lo hxo.1 (by omega)
   by_cases h0:x.1.Lo=0
   ·rw [e1,e2,lk_out hao (by omega),lk_out hbo (by omega)] at g1
    have:lk c x.1.Lo=[]:=g1.inj ⟨CF_nil _,fun p _=>by rw [mS_nil,hff]⟩
    rw [hx1] at this
    exact hxo.2.2.2 this
   ·have g2:=hat (x.1.Lo - 1) (by omega) (by omega)
    rw [e1,e2] at g1
    have e3:=g1.inj g2
    rw [hx1] at e3
    obtain⟨y,hy,h3,h4⟩:=Zj6 (c:=c) (v:=x.1.Lo - 1) (by rw [← e3]; exact hxo.2.2.2)
    rw [lk_mem ho hy h3 h4] at e3
    obtain⟨i,hi,rfl⟩:=List.getElem_of_mem hx
    obtain⟨j,hj,rfl⟩:=List.getElem_of_mem hy
    have hp:=List.pairwise_iff_getElem.1 ho.pw
    rcases Nat.lt_trichotomy i j with h5 | h5 | h5
    ·have:=(hp i j hi hj h5).1; omega
    ·subst h5; omega
    ·have hg:=hp j i hj hi h5
     have:=hg.1
     exact hg.2 (by omega) e3.symm
  generalize hV:c.map (·.1.Lo)=vs at hvs hin
  have cnt:∀ {d d':List Cell},Ord t d→(∀ v∈vs,v∈ends2 d∨v∈ends2 d')→∀ x∈d,(vs.filter (inR · x.1)).length≤2 * d'.length + 1:=by
   intro d d' hd hdv x hx
   have hs:(vs.filter (inR · x.1)) ⊆ x.1.Lo :: ends2 d':=by
    intro v hv
    obtain⟨h1,h2⟩:=List.mem_filter.1 hv
    rcases hdv v h1 with h3 | h3
    ·rw [Zs8 hd hx h3 h2]; exact List.mem_cons_self ..
    ·exact List.mem_cons_of_mem _ h3
   have:=List.Nodup.length_le_of_subset (Zq0 (hvs.filter _)) hs
   rw [List.length_cons,Z07] at this
   exact this
  have s1:=sum_lk vs ca (cnt hao hin)
  have s2:=sum_lk vs cb (cnt hbo fun v hv=>(hin v hv).symm)
  have s3:=Zzn vs cb ca (fun x hx y hy=>by
   have hs:((vs.filter (inR · x.1)).filter (inR · y.1)) ⊆ [max x.1.Lo y.1.Lo]:=by
    intro v hv
    obtain⟨h1,h2⟩:=List.mem_filter.1 hv
    obtain⟨h3,h4⟩:=List.mem_filter.1 h1
    have h2':=Zgt.1 h2
    have h4':=Zgt.1 h4
    rw [List.mem_singleton]
    rcases hin v h3 with h5 | h5
    ·have:=Zs8 hao hx h5 h4; omega
    ·have:=Zs8 hbo hy h5 h2; omega
   have:=List.Nodup.length_le_of_subset (Zq0 ((hvs.filter _).filter _)) hs
   simpa using this)
  have total:(flt c).length≤sumL (fun v=>4 * ts.length * ((lk ca v).length * (lk cb v).length) + (lk ca v).length + (lk cb v).length) vs:=by
   rw [Zzm,← hV]
   have e:∀(d:List Cell) (f:Int→Nat),sumL f (d.map (·.1.Lo))=sumL (fun x=>f x.1.Lo) d:=by
    intro d f
    induction d with
    | nil=>rfl
    | cons x d ih=>rw [List.map_cons,Zff,Zff,ih]
   rw [e]
   refine Zzk fun x hx=>?_
   have hxo:=ho.ok x hx
   have g1:=hat x.1.Lo hxo.1 (by omega)
   rw [lk_mem ho hx (Int.le_refl _) hxo.2.1] at g1
   exact Zuo hff ts (CF_lk hao hac _) (CF_lk hbo hbc _) g1
  rw [Zo1,Zo1,Zs7] at total
  have la:=hao.len
  have lb:=hbo.len
  have m3:=Nat.mul_le_mul_left (4 * ts.length) s3
  have n1:(2 * cb.length + 1) * (flt ca).length≤(2 * (flt cb).length + 1) * (flt ca).length:=Nat.mul_le_mul_right _ (by omega)
  have n2:(2 * ca.length + 1) * (flt cb).length≤(2 * (flt ca).length + 1) * (flt cb).length:=Nat.mul_le_mul_right _ (by omega)
  rw [Nat.add_mul,Nat.one_mul] at n1 n2
  have c1:2 * (flt cb).length * (flt ca).length=2 * ((flt ca).length * (flt cb).length):=by rw [Nat.mul_assoc,Nat.mul_comm (flt cb).length]
  have c2:2 * (flt ca).length * (flt cb).length=2 * ((flt ca).length * (flt cb).length):=by rw [Nat.mul_assoc]
  have n1':(2 * cb.length + 1) * (flt ca).length≤(2 * (flt cb).length) * (flt ca).length + (flt ca).length:=by
   have:=Nat.mul_le_mul_right (flt ca).length (show 2 * cb.length + 1≤2 * (flt cb).length + 1 by omega)
   rw [Nat.add_mul (2 * (flt cb).length),Nat.one_mul] at this
   exact this
  have n2':(2 * ca.length + 1) * (flt cb).length≤(2 * (flt ca).length) * (flt cb).length + (flt cb).length:=by
   have:=Nat.mul_le_mul_right (flt cb).length (show 2 * ca.length + 1≤2 * (flt ca).length + 1 by omega)
   rw [Nat.add_mul (2 * (flt ca).length),Nat.one_mul] at this
   exact this
  rw [c1] at n1'
  rw [c2] at n2'
  have fin:4 * (t :: ts).length * ((flt ca).length * (flt cb).length)=4 * ts.length * ((flt ca).length * (flt cb).length) + 4 * ((flt ca).length * (flt cb).length):=by
   rw [List.length_cons,Nat.mul_add,Nat.add_mul]
  omega
theorem Can.size {op:Bool→Bool→Bool} (hff:op false false=false) {a b l:List Bx} (ha:CFb a) (hb:CFb b) (h:Can op a b l):l.length≤20 * (a.length * b.length) + a.length + b.length:=by
 have:=Zuo hff tops5 ha hb h.is
 rw [List.length_map,List.length_map,List.length_map] at this
 exact this
theorem Can.size2 {op:Bool→Bool→Bool} (hff:op false false=false) {a b l:List Bx} (ha:CFb a) (hb:CFb b) (h:Can op a b l) (h1:a.length≤4096) (h2:b.length≤4096):l.length≤2000000000:=by
 have:=h.size hff ha hb
 have:=Nat.mul_le_mul h1 h2
 omega
end Go.AM
set_option maxRecDepth 100000
namespace Go.AM
open Go
noncomputable def can (op:Bool→Bool→Bool) (a b:List Bx):List Bx:=(Can.ex op a b).choose
theorem Zc8 (op:Bool→Bool→Bool) (a b:List Bx):Can op a b (can op a b):=(Can.ex op a b).choose_spec
theorem Can.eq {op:Bool→Bool→Bool} {a b l:List Bx} (h:Can op a b l):can op a b=l:=(Zc8 op a b).inj h
def oO (x y:Bool):Bool:=x || y
def oA (x y:Bool):Bool:=x && y
def oW (x y:Bool):Bool:=x && !y
theorem opc0:opc 0=oO:=funext fun x=>funext fun y=>rfl
theorem opc1:opc 1=oA:=funext fun x=>funext fun y=>rfl
theorem opc2:opc 2=oW:=funext fun x=>funext fun y=>rfl
theorem Zq1:∀(ts:List Int) {b:RL},vR ts b→CF ts [b]
 | [],b,h=>by
  cases b with
  | nil=>exact .inr rfl
  | cons _ _=>exact h.elim
 | t :: ts,b,h=>by
  cases b with
  | nil=>exact h.elim
  | cons r b=>
   obtain⟨h0,h1,h2,h3⟩:=h
   refine⟨[(r,[b])],rfl,⟨List.pairwise_singleton ..,fun x hx=>?_⟩,fun x hx=>?_⟩
   ·rw [List.mem_singleton] at hx; subst hx; exact⟨h0,h1,h2,List.cons_ne_nil _ _⟩
   ·rw [List.mem_singleton] at hx; subst hx; exact Zq1 ts h3
theorem ok_vR {b:Bx} (h:BOk b):vR tops5 (toL b):=
 ⟨h.h0.h0,h.h0.h1,h.h0.h2,h.h1.h0,h.h1.h1,h.h1.h2,h.h2.h0,h.h2.h1,h.h2.h2,h.h3.h0,h.h3.h1,h.h3.h2,h.h4.h0,h.h4.h1,h.h4.h2,trivial⟩
theorem CFb.single {b:Bx} (h:BOk b):CFb [b]:=Zq1 tops5 (ok_vR h)
noncomputable def mkF:List Bx→List Bx→List Bx × Int
 | s,[]=>(s,0)
 | s,b :: l=>if (can oO s [b]).length≤4096 then mkF (can oO s [b]) l else ([],3)
noncomputable def mk (l:List Bx):List Bx × Int:=mkF [] (l.filter vB)
theorem combO {a b:List Bx} (hl:a.length + b.length≤400000) (ha:∀ x∈a,BOk x) (hb:∀ x∈b,BOk x):Za6 a b=some (capB (can oO a b)):=Zvm hl ha hb (Zc8 oO a b)
theorem Z3i (r:List Bx) (hr:r.length≤1000000) (hok:∀ x∈r,BOk x):∀(K i n:Nat) (s:List Bx),r.length - i=K→K<n→VS s→i≤r.length→∃ o,Zd2 r n s (i:Int)=some o∧mkF s (r.drop i)=match o with
   | .inl v=>(v,0)
   | .inr z=>z:=by
 intro K
 induction K with
 | zero=>
  intro i n s hK hn hs hi
  cases n with
  | zero=>omega
  | succ n=>
  rw [Zd2,if_neg (by simp; omega),List.drop_eq_nil_of_le (by omega)]
  exact⟨_,rfl,rfl⟩
 | succ K ih=>
  intro i n s hK hn hs hi
  cases n with
  | zero=>omega
  | succ n=>
  have hil:i<r.length:=by omega
  have hb:=hok _ (List.getElem_mem hil)
  have hsl:=hs.len
  rw [Zd2,if_pos (by simp; omega),Z5 hil]
  simp only [Option.bind_some]
  rw [combO (by simp; omega) hs.ok (fun x hx=>by rw [List.mem_singleton] at hx; rw [hx]; exact hb)]
  rw [List.drop_eq_getElem_cons hil]
  simp only [Option.bind_some,capB,mkF]
  by_cases h:(can oO s [r[i]]).length≤4096
  ·rw [if_pos h,if_pos h]
   simp only [bne_self_eq_false,Bool.false_eq_true,if_false]
   rw [wsucc (by omega)]
   exact ih (i + 1) n _ (by omega) (by omega) (VS.of (Zc8 oO s [r[i]]).cf h) (by omega)
  ·rw [if_neg h,if_neg h]
   exact⟨_,rfl,rfl⟩
theorem VS.nil:VS []:=⟨by simp,fun _ h=>(by cases h),CFb.nil⟩
theorem Zx8 {l:List Bx} (hl:l.length≤1000000) (hin:∀ x∈l,BIn x):Zf7 l=some (mk l):=by
 unfold Zf7
 rw [Zwb (by omega)]
 simp only [Option.bind_some]
 have hfl:=List.length_filter_le vB l
 obtain⟨o,e,g⟩:=Z3i (l.filter vB) (by omega) (fun x hx=>by
  obtain⟨h1,h2⟩:=List.mem_filter.1 hx
  exact vB_ok (hin x h1) h2) _ 0 fuel [] rfl (by unfold fuel; omega) VS.nil (by omega)
 rw [show ((0:Nat):Int)=0 from rfl] at e
 rw [e]
 rw [List.drop_zero] at g
 unfold mk
 rw [g]
 cases o <;> rfl
theorem Z3j (r:List Bx) (hr:r.length≤300000) (hin:∀ x∈r,BIn x):∀(K i n:Nat) (s:List Bx),r.length - i=K→K<n→VS s→i≤r.length→∃ o,Zen r n s (i:Int)=some o∧mkF s ((r.drop i).filter vB)=match o with
   | .inl v=>(v,0)
   | .inr z=>z:=by
 intro K
 induction K with
 | zero=>
  intro i n s hK hn hs hi
  cases n with
  | zero=>omega
  | succ n=>
  rw [Zen,if_neg (by simp; omega),List.drop_eq_nil_of_le (by omega)]
  exact⟨_,rfl,rfl⟩
 | succ K ih=>
  intro i n s hK hn hs hi
  cases n with
  | zero=>omega
  | succ n=>
  have hil:i<r.length:=by omega
  have hsl:=hs.len
  have hpart:List.drop i (List.take (i + 1) r)=[r[i]]:=by
   rw [List.drop_take,show i + 1 - i=1 by omega,List.drop_eq_getElem_cons hil]
   rfl
  rw [Zen,if_pos (by simp; omega),Z5 hil]
  simp only [Option.bind_some,Zm6]
  rw [wsucc (by omega),List.drop_eq_getElem_cons hil,List.filter_cons]
  simp only [Int.toNat_natCast,hpart]
  by_cases hv:vB r[i]=true
  ·have hb:BOk r[i]:=vB_ok (hin _ (List.getElem_mem hil)) hv
   rw [hv]
   simp only [Bool.not_true,Bool.false_eq_true,if_false,if_true]
   rw [if_pos ⟨by omega,by omega,by omega⟩]
   have hC:=Zc8 oO s [r[i]]
   rw [Zqz (k:=0) (by simp; omega) hs.ok (fun x hx=>by rw [List.mem_singleton] at hx; rw [hx]; exact hb) (by rw [opc0]; exact hC) (hC.size2 rfl hs.cf (CFb.single hb) hs.len (by simp))]
   simp only [Option.bind_some,Zo0,capB,mkF]
   by_cases h:(can oO s [r[i]]).length≤4096
   ·rw [if_pos h,if_pos h]
    simp only [bne_self_eq_false,Bool.false_eq_true,if_false,Option.bind_some]
    exact ih (i + 1) n _ (by omega) (by omega) (VS.of (Zc8 oO s [r[i]]).cf h) (by omega)
   ·rw [if_neg h,if_neg h]
    exact⟨_,rfl,rfl⟩
  ·rw [Bool.not_eq_true] at hv
   rw [hv]
   simp only [Bool.not_false,if_true,Option.bind_some,Bool.false_eq_true,if_false]
   exact ih (i + 1) n _ (by omega) (by omega) hs (by omega)
theorem Zx9 {l:List Bx} (hl:l.length≤300000) (hin:∀ x∈l,BIn x):Zhb l=some (mk l):=by
 unfold Zhb
 obtain⟨o,e,g⟩:=Z3j l hl hin _ 0 fuel [] rfl (by unfold fuel; omega) VS.nil (by omega)
 rw [show ((0:Nat):Int)=0 from rfl] at e
 rw [e]
 rw [List.drop_zero] at g
 unfold mk
 rw [g]
 cases o <;> rfl
noncomputable def vSb (l:List Bx):Bool:=@decide (VS l) (Classical.propDecidable _)
theorem Zl3 {l:List Bx}:vSb l=true ↔ VS l:=by unfold vSb; exact @decide_eq_true_iff _ (Classical.propDecidable _)
theorem Zzp {r:Bool} {p:Prop} {q:Bool} (h1:r=true ↔ p) (h2:q=true ↔ p):r=q:=by
 rw [Bool.eq_iff_iff,h1,h2]
theorem pVal {l:List Bx} (hl:l.length≤300000) (hin:∀ x∈l,BIn x):Zeo l=some (vSb l):=by
 obtain⟨r,e,g⟩:=Z05 (by omega) hin
 rw [e,Zzp g Zl3]
theorem rVal {l:List Bx} (hl:l.length≤300000) (hin:∀ x∈l,BIn x):Zgp l=some (vSb l):=by
 obtain⟨r,e,g⟩:=Z0g (by omega) hin
 rw [e,Zzp g Zl3]
noncomputable def st (l:List Bx):List Bx × Int:=if vSb l=true then (l,0) else mk l
theorem Zld {l:List Bx} (hl:l.length≤300000) (hin:∀ x∈l,BIn x):Zc2 l=some (st l):=by
 unfold Zc2 st
 rw [pVal hl hin]
 simp only [Option.bind_some]
 split
 ·rfl
 ·rw [Zx8 (by omega) hin]; rfl
theorem Zq2 {l:List Bx} (hl:l.length≤300000) (hin:∀ x∈l,BIn x):Zfn l=some (st l):=by
 unfold Zfn st
 rw [rVal hl hin]
 simp only [Option.bind_some]
 split
 ·rfl
 ·rw [Zx9 (by omega) hin]; rfl
theorem Z3k (a b:List Bx) (p:List Int):mem (a++b) p=(mem a p || mem b p):=by unfold mem; rw [List.map_append,mS_app]
structure SetOr (r:List Bx × Int):Prop where
 vs:VS r.1
 err:r.2=0∨r=([],3)
theorem mkF_ok:∀(l s:List Bx),VS s→SetOr (mkF s l)∧((mkF s l).2=0→∀ p,vP tops5 p→mem (mkF s l).1 p=(mem s p || mem l p))
 | [],s,hs=>⟨⟨hs,Or.inl rfl⟩,fun _ p _=>by rw [Zvl,Bool.or_false]; rfl⟩
 | b :: l,s,hs=>by
  simp only [mkF]
  by_cases h:(can oO s [b]).length≤4096
  ·rw [if_pos h]
   have hC:=Zc8 oO s [b]
   obtain⟨g1,g2⟩:=mkF_ok l (can oO s [b]) (VS.of hC.cf h)
   refine⟨g1,fun h0 p hp=>?_⟩
   rw [g2 h0 p hp,hC.mem p hp,show b :: l=[b]++l from rfl,Z3k [b] l,oO,Bool.or_assoc]
  ·rw [if_neg h]
   exact⟨⟨VS.nil,Or.inr rfl⟩,fun h=>by cases h⟩
theorem st_ok (l:List Bx):SetOr (st l)∧((st l).2=0→∀ p,vP tops5 p→mem (st l).1 p=mem (l.filter vB) p):=by
 unfold st
 by_cases h:vSb l=true
 ·rw [if_pos h]
  have hv:=Zl3.1 h
  refine⟨⟨hv,Or.inl rfl⟩,fun _ p _=>?_⟩
  rw [List.filter_eq_self.2 fun x hx=>ok_vB (hv.ok x hx)]
 ·rw [if_neg h]
  obtain⟨g1,g2⟩:=mkF_ok (l.filter vB) [] VS.nil
  exact⟨g1,fun h0 p hp=>by unfold mk; rw [g2 h0 p hp,Zvl,Bool.false_or]⟩
theorem Zvn {l:List Bx} (h:VS l):st l=(l,0):=by unfold st; rw [if_pos (Zl3.2 h)]
noncomputable def cmb (op:Bool→Bool→Bool) (a b:List Bx):List Bx × Int:=
 if (st a).2 ≠ 0 then ([],(st a).2) else if (st b).2 ≠ 0 then ([],(st b).2) else capB (can op (st a).1 (st b).1)
theorem Zzq {op:Bool→Bool→Bool} {a b:List Bx}:SetOr (capB (can op a b)):=by
 unfold capB
 by_cases h:(can op a b).length≤4096
 ·rw [if_pos h]; exact⟨VS.of (Zc8 op a b).cf h,Or.inl rfl⟩
 ·rw [if_neg h]; exact⟨VS.nil,Or.inr rfl⟩
theorem SetOr.three {r:List Bx × Int} (h:SetOr r) (hr:r.2 ≠ 0):r=([],3):=h.err.resolve_left hr
theorem cmb_ok (op:Bool→Bool→Bool) (a b:List Bx):SetOr (cmb op a b)∧((cmb op a b).2=0→∀ p,vP tops5 p→mem (cmb op a b).1 p=op (mem (a.filter vB) p) (mem (b.filter vB) p)):=by
 have ha:=st_ok a
 have hb:=st_ok b
 unfold cmb
 by_cases h1:(st a).2 ≠ 0
 ·rw [if_pos h1,ha.1.three h1]; exact⟨⟨VS.nil,Or.inr rfl⟩,fun h=>by cases h⟩
 ·rw [if_neg h1]
  by_cases h2:(st b).2 ≠ 0
  ·rw [if_pos h2,hb.1.three h2]; exact⟨⟨VS.nil,Or.inr rfl⟩,fun h=>by cases h⟩
  ·rw [if_neg h2]
   refine⟨Zzq,fun h0 p hp=>?_⟩
   have hc:=Zc8 op (st a).1 (st b).1
   unfold capB at h0 ⊢
   split at h0
   ·rename_i h
    rw [if_pos h]
    show mem (can op (st a).1 (st b).1) p=_
    rw [hc.mem p hp,ha.2 (by simpa using h1) p hp,hb.2 (by simpa using h2) p hp]
   ·cases h0
theorem Z08 {a b:List Bx} (ha:a.length≤300000) (hb:b.length≤300000) (hai:∀ x∈a,BIn x) (hbi:∀ x∈b,BIn x):Zg2 a b=some (cmb oO a b):=by
 have sa:=(st_ok a).1.vs
 have sb:=(st_ok b).1.vs
 have la:=sa.len
 have lb:=sb.len
 unfold Zg2 Zfm cmb
 rw [Zld ha hai]
 simp only [Option.bind_some,bne_iff_ne]
 split
 ·rfl
 ·rw [Zld hb hbi]
  simp only [Option.bind_some]
  split
  ·rfl
  ·rw [combO (by omega) sa.ok sb.ok]
   rfl
theorem Zww {a b:List Bx} (ha:a.length≤300000) (hb:b.length≤300000) (hai:∀ x∈a,BIn x) (hbi:∀ x∈b,BIn x):Ze9 a b=some (cmb oA a b):=by
 have sa:=(st_ok a).1.vs
 have sb:=(st_ok b).1.vs
 have la:=sa.len
 have lb:=sb.len
 unfold Ze9 Zgb cmb
 rw [Zld ha hai]
 simp only [Option.bind_some,bne_iff_ne]
 split
 ·rfl
 ·rw [Zld hb hbi]
  simp only [Option.bind_some]
  split
  ·rfl
  ·rw [Zx6 (by omega) sa.ok sb.ok (Zc8 oA _ _)]
   rfl
theorem Zya {a b:List Bx} (ha:a.length≤300000) (hb:b.length≤300000) (hai:∀ x∈a,BIn x) (hbi:∀ x∈b,BIn x):Zfl a b=some (cmb oW a b):=by
 have sa:=(st_ok a).1.vs
 have sb:=(st_ok b).1.vs
 have la:=sa.len
 have lb:=sb.len
 unfold Zfl Zfg cmb
 rw [Zld ha hai]
 simp only [Option.bind_some,bne_iff_ne]
 split
 ·rfl
 ·rw [Zld hb hbi]
  simp only [Option.bind_some]
  split
  ·rfl
  ·rw [Zum (by omega) sa.ok sb.ok (Zc8 oW _ _)]
   rfl
theorem Znv {k:Int} {a b:List Bx} (ha:a.length≤300000) (hb:b.length≤300000) (hai:∀ x∈a,BIn x) (hbi:∀ x∈b,BIn x):Zep a b k=some (cmb (opc k) a b):=by
 have sa:=(st_ok a).1.vs
 have sb:=(st_ok b).1.vs
 have la:=sa.len
 have lb:=sb.len
 unfold Zep cmb
 rw [Zq2 ha hai]
 simp only [Option.bind_some,bne_iff_ne]
 split
 ·rfl
 ·rw [Zq2 hb hbi]
  simp only [Option.bind_some]
  split
  ·rfl
  ·have hC:=Zc8 (opc k) (st a).1 (st b).1
   rw [Zqz (by omega) sa.ok sb.ok hC (hC.size2 (opc_ff k) sa.cf sb.cf sa.len sb.len)]
   simp only [Option.bind_some,Zo0]
theorem Z09 {a b:List Bx} (ha:a.length≤300000) (hb:b.length≤300000) (hai:∀ x∈a,BIn x) (hbi:∀ x∈b,BIn x):Zgq a b=some (cmb oO a b):=by
 unfold Zgq; rw [Znv ha hb hai hbi,opc0]; rfl
theorem Zvo {a b:List Bx} (ha:a.length≤300000) (hb:b.length≤300000) (hai:∀ x∈a,BIn x) (hbi:∀ x∈b,BIn x):Zew a b=some (cmb oA a b):=by
 unfold Zew; rw [Znv ha hb hai hbi,opc1]; rfl
theorem Zwx {a b:List Bx} (ha:a.length≤300000) (hb:b.length≤300000) (hai:∀ x∈a,BIn x) (hbi:∀ x∈b,BIn x):Zfa a b=some (cmb oW a b):=by
 unfold Zfa; rw [Znv ha hb hai hbi,opc2]; rfl
theorem Z2e (a:List Bx):cmb oO a []=st a:=by
 have ha:=st_ok a
 unfold cmb
 rw [Zvn VS.nil]
 by_cases h1:(st a).2 ≠ 0
 ·rw [if_pos h1,ha.1.three h1]
 ·rw [if_neg h1,if_neg (by simp)]
  have:can oO (st a).1 []=(st a).1:=(Can.right (fun x=>by cases x <;> rfl) ha.1.vs.cf).eq
  rw [this]
  unfold capB
  rw [if_pos ha.1.vs.len]
  have h2:(st a).2=0:=by simpa using h1
  rw [← h2]
end Go.AM
set_option maxRecDepth 100000
namespace Go.AM
open Go
end Go.AM
set_option maxRecDepth 100000
namespace Go.AM
open Go
structure InL (l:List Bx):Prop where
 len:l.length≤300000
 bin:∀ x∈l,BIn x
theorem VS.inL {l:List Bx} (h:VS l):InL l:=⟨by have:=h.len; omega,fun x hx=>(h.ok x hx).bin⟩
theorem InL.one {b:Bx} (h:BIn b):InL [b]:=⟨by simp,fun x hx=>by rw [List.mem_singleton] at hx; rw [hx]; exact h⟩
def kp (e:Bool) (r:List Bx × Int):List Bx × Bool:=if e=true∨r.2 ≠ 0 then ([],true) else (r.1,false)
def le (e:Bool):Zj:=⟨if e=true then 3 else 0⟩
noncomputable def uU (e:Bool) (a b:List Bx):=kp e (cmb oO a b)
noncomputable def uI (e:Bool) (a b:List Bx):=kp e (cmb oA a b)
noncomputable def uS (e:Bool) (a b:List Bx):=kp e (cmb oW a b)
theorem kp_vs {e:Bool} {r:List Bx × Int} (h:SetOr r):VS (kp e r).1∧((kp e r).2=true→(kp e r).1=[]):=by
 unfold kp
 split
 ·exact⟨VS.nil,fun _=>rfl⟩
 ·exact⟨h.vs,fun h=>by cases h⟩
theorem Zol {e:Bool} {r:List Bx × Int} (h:SetOr r):Zb4 (le e) r.1 r.2=some ((kp e r).1,le (kp e r).2):=by
 unfold Zb4 kp le
 cases e with
 | true=>simp
 | false=>
  by_cases h0:r.2=0
  ·simp [h0]
  ·rw [h.three h0]; simp
theorem lU_eq {e:Bool} {a b:List Bx} (ha:InL a) (hb:InL b):Zce (le e) a b=some ((uU e a b).1,le (uU e a b).2):=by
 unfold Zce uU
 rw [Z08 ha.len hb.len ha.bin hb.bin]
 simp only [Option.bind_some]
 rw [Zol (cmb_ok _ _ _).1]; rfl
theorem lI_eq {e:Bool} {a b:List Bx} (ha:InL a) (hb:InL b):Za8 (le e) a b=some ((uI e a b).1,le (uI e a b).2):=by
 unfold Za8 uI
 rw [Zww ha.len hb.len ha.bin hb.bin]
 simp only [Option.bind_some]
 rw [Zol (cmb_ok _ _ _).1]; rfl
theorem lS_eq {e:Bool} {a b:List Bx} (ha:InL a) (hb:InL b):Zc9 (le e) a b=some ((uS e a b).1,le (uS e a b).2):=by
 unfold Zc9 uS
 rw [Zya ha.len hb.len ha.bin hb.bin]
 simp only [Option.bind_some]
 rw [Zol (cmb_ok _ _ _).1]; rfl
theorem Zvp {e:Bool} {op:Bool→Bool→Bool} {a b:List Bx} {k:Int} (h:(if (k == (0:Int))=true then
   (Zgq a b).bind fun(r13:((List (Arr5 Zb)) × Int))=>
   some (r13.1,r13.2)
  else
   if (k == (1:Int))=true then
    (Zew a b).bind fun(r15:((List (Arr5 Zb)) × Int))=>
    some (r15.1,r15.2)
   else
    (Zfa a b).bind fun(r17:((List (Arr5 Zb)) × Int))=>
    some (r17.1,r17.2))=some (cmb op a b)):Zv ⟨e⟩ k a b=some ((kp e (cmb op a b)).1,⟨(kp e (cmb op a b)).2⟩):=by
 unfold Zv
 cases e with
 | true=>simp [kp]
 | false=>
  rw [if_neg (by simp),h]
  simp only [Option.bind_some]
  have ho:=(cmb_ok op a b).1
  by_cases h0:(cmb op a b).2=0
  ·simp [kp,h0]
  ·rw [ho.three h0]; simp [kp]
theorem fU_eq {e:Bool} {a b:List Bx} (ha:InL a) (hb:InL b):Zv ⟨e⟩ 0 a b=some ((uU e a b).1,⟨(uU e a b).2⟩):=
 Zvp (by rw [Z09 ha.len hb.len ha.bin hb.bin]; rfl)
theorem fI_eq {e:Bool} {a b:List Bx} (ha:InL a) (hb:InL b):Zv ⟨e⟩ 1 a b=some ((uI e a b).1,⟨(uI e a b).2⟩):=
 Zvp (by rw [Zvo ha.len hb.len ha.bin hb.bin]; rfl)
theorem fS_eq {e:Bool} {a b:List Bx} (ha:InL a) (hb:InL b):Zv ⟨e⟩ 2 a b=some ((uS e a b).1,⟨(uS e a b).2⟩):=
 Zvp (by rw [Zwx ha.len hb.len ha.bin hb.bin]; rfl)
theorem uU_vs (e:Bool) (a b:List Bx):VS (uU e a b).1∧((uU e a b).2=true→(uU e a b).1=[]):=kp_vs (cmb_ok _ _ _).1
theorem uI_vs (e:Bool) (a b:List Bx):VS (uI e a b).1∧((uI e a b).2=true→(uI e a b).1=[]):=kp_vs (cmb_ok _ _ _).1
theorem uS_vs (e:Bool) (a b:List Bx):VS (uS e a b).1∧((uS e a b).2=true→(uS e a b).1=[]):=kp_vs (cmb_ok _ _ _).1
theorem Zzr {s:List Bx} (hs:InL s):Zd7 Zd9 s=some ((kp false (st s)).1,le (kp false (st s)).2):=by
 unfold Zd7
 rw [pVal hs.len hs.bin]
 simp only [Option.bind_some]
 by_cases h:vSb s=true
 ·rw [if_pos h,Zvn (Zl3.1 h)]; rfl
 ·rw [if_neg h,Zx8 (by have:=hs.len; omega) hs.bin]
  have e:st s=mk s:=by unfold st; rw [if_neg h]
  have ho:SetOr (mk s):=e ▸ (st_ok s).1
  simp only [Option.bind_some]
  rw [show Zd9=le false from rfl,Zol ho,e]
  rfl
theorem Zyb {s:List Bx} (hs:InL s):Zv ⟨false⟩ 0 s []=some ((kp false (st s)).1,⟨(kp false (st s)).2⟩):=by
 rw [fU_eq hs VS.nil.inL]
 unfold uU
 rw [Z2e]
def badB:Bx:=⟨⟨1,0⟩,Zq,Zq,Zq,Zq⟩
def frm (m:Zmc):Bx:=if vM m=true then m.From else badB
theorem vB_bad:vB badB=false:=by decide
abbrev PSt:=Bool × List (List Bx) × List Bx
noncomputable def pstepB (s:PSt) (b:Bx):PSt:=if vB b=true then ((uS (uI s.1 s.2.2 [b]).2 s.2.2 [b]).2,s.2.1++[(uI s.1 s.2.2 [b]).1],(uS (uI s.1 s.2.2 [b]).2 s.2.2 [b]).1) else (s.1,s.2.1++[[]],s.2.2)
theorem Zml {α σ:Type} (f:σ→α→σ):∀(l:List α) (s:σ) (i:Nat),foldI (fun s _ x=>f s x) s i l=l.foldl f s
 | [],_,_=>rfl
 | x :: l,s,i=>by simp only [foldI,List.foldl_cons]; exact Zml f l _ _
noncomputable def partsR:Bool→List Bx→List Bx→List (List Bx) × List Bx × Bool
 | e,s,[]=>([],s,e)
 | e,s,b :: l=>if vB b=true then ((uI e s [b]).1 :: (partsR (uS (uI e s [b]).2 s [b]).2 (uS (uI e s [b]).2 s [b]).1 l).1,(partsR (uS (uI e s [b]).2 s [b]).2 (uS (uI e s [b]).2 s [b]).1 l).2) else ([] :: (partsR e s l).1,(partsR e s l).2)
theorem Zo3:∀(l:List Bx) (e:Bool) (out:List (List Bx)) (s:List Bx),l.foldl pstepB (e,out,s)=((partsR e s l).2.2,out++(partsR e s l).1,(partsR e s l).2.1)
 | [],e,out,s=>by simp [partsR]
 | b :: l,e,out,s=>by
  rw [List.foldl_cons]
  by_cases h:vB b=true
  ·rw [show pstepB (e,out,s) b=((uS (uI e s [b]).2 s [b]).2,out++[(uI e s [b]).1],(uS (uI e s [b]).2 s [b]).1) by unfold pstepB; rw [if_pos h],Zo3 l]
   simp only [partsR,if_pos h,List.append_assoc,List.singleton_append]
  ·rw [show pstepB (e,out,s) b=(e,out++[[]],s) by unfold pstepB; rw [if_neg h],Zo3 l]
   simp only [partsR,if_neg h,List.append_assoc,List.singleton_append]
theorem Z1a {s:PSt} {b:Bx} (h:VS s.2.2):VS (pstepB s b).2.2∧(pstepB s b).2.1.length=s.2.1.length + 1:=by
 unfold pstepB
 split
 ·exact⟨(uS_vs _ _ _).1,by simp⟩
 ·exact⟨h,by simp⟩
theorem Z2f {ms:List Bx} (hm:ms.length≤100000) (hin:∀ x∈ms,BIn x) {e:Bool} {s:List Bx} (hs:VS s):Zey (le e) ms s=some ((partsR e s ms).1,(partsR e s ms).2.1,le (partsR e s ms).2.2):=by
 unfold Zey
 have:=Zch (L:=fun n (s:PSt) i=>Zbd ms n (le s.1) s.2.1 s.2.2 i) ms (fun s _ x=>pstepB s x) (fun s=>(le s.1,s.2.1,s.2.2)) (fun i s=>s.2.1.length=i∧VS s.2.2) (by omega) (fun n s i hi hs=>by
  show Zbd ms (n + 1) (le s.1) s.2.1 s.2.2 (i:Int)=_∧_
  have hb:=hin _ (List.getElem_mem hi)
  have hp:=Z1a (b:=ms[i]) hs.2
  refine⟨?_,by rw [hp.2,hs.1],hp.1⟩
  rw [Zbd]
  simp only [show ((i:Int)<(ms.length:Int)) from by omega,decide_true,if_true,Z5 hi,Option.bind_some,Zox,wsucc (by omega:i<1000000000001),List.length_singleton]
  unfold pstepB
  by_cases h:vB ms[i]=true
  ·rw [if_pos h,h]
   simp only [Bool.not_true,Bool.false_eq_true,if_false]
   rw [lI_eq hs.2.inL (InL.one hb)]
   simp only [Option.bind_some]
   rw [if_pos (show s.2.1.length + 1≤lim by rw [hs.1]; unfold lim; omega),lS_eq hs.2.inL (InL.one hb)]
   rfl
  ·rw [if_neg h]
   rw [Bool.not_eq_true] at h
   rw [h]
   simp only [Bool.not_false,if_true]
   rw [if_pos (show s.2.1.length + 1≤lim by rw [hs.1]; unfold lim; omega)]
   rfl) (fun n s hs=>by
  show Zbd ms (n + 1) (le s.1) s.2.1 s.2.2 (ms.length:Int)=_
  rw [Zbd]; simp) (e,[],s) ⟨rfl,hs⟩
 have h1:=this.1
 simp only at h1
 rw [h1,Zml pstepB,Zo3]
 rfl
theorem Zq3:∀(l:List Bx) (e:Bool) (s:List Bx),(partsR e s l).1.length=l.length
 | [],_,_=>rfl
 | b :: l,e,s=>by
  simp only [partsR]
  split
  ·simp only [List.length_cons]; rw [Zq3 l]
  ·simp only [List.length_cons]; rw [Zq3 l]
theorem Zs9:∀(l:List Bx) (e:Bool) (s:List Bx),VS s→(∀ x∈(partsR e s l).1,VS x)∧VS (partsR e s l).2.1
 | [],_,_,h=>⟨fun _ h=>(by cases h),h⟩
 | b :: l,e,s,h=>by
  simp only [partsR]
  split
  ·have ih:=Zs9 l (uS (uI e s [b]).2 s [b]).2 (uS (uI e s [b]).2 s [b]).1 (uS_vs _ _ _).1
   exact⟨fun x hx=>(List.mem_cons.1 hx).elim (fun h=>h ▸ (uI_vs _ _ _).1) (ih.1 x),ih.2⟩
  ·have ih:=Zs9 l e s h
   exact⟨fun x hx=>(List.mem_cons.1 hx).elim (fun h=>h ▸ VS.nil) (ih.1 x),ih.2⟩
abbrev ISt:=Bool × List Bx
def resA (s:ISt):List Bx × Int:=if s.1=true then ([],3) else (s.2,0)
theorem Zwg {e:Bool} {s:List Bx} (h:s.length≤300000):Zdk (le e) s=some (resA (e,s)):=by
 unfold Zdk resA le
 cases e with
 | true=>rfl
 | false=>
  simp only [Bool.false_eq_true,if_false,bne_self_eq_false]
  rw [if_pos (by unfold lim; omega)]
theorem Zup {e:Bool} {s:List Bx}:Zd8 ⟨e⟩ s=some (resA (e,s)):=by
 unfold Zd8 resA
 cases e <;> rfl
structure ISok (s:ISt):Prop where
 vs:VS s.2
 e:s.1=true→s.2=[]
end Go.AM
set_option maxRecDepth 100000
namespace Go.AM
open Go
structure MN (m:Zmc):Prop where
 n0:0≤m.From.x0.Lo∧m.From.x0.Lo≤m.From.x0.Hi∧m.From.x0.Hi≤4294967295∧0≤m.To.x0.Lo∧m.To.x0.Hi≤4294967295∧m.From.x0.Hi - m.From.x0.Lo=m.To.x0.Hi - m.To.x0.Lo
 n1:0≤m.From.x1.Lo∧m.From.x1.Lo≤m.From.x1.Hi∧m.From.x1.Hi≤4294967295∧0≤m.To.x1.Lo∧m.To.x1.Hi≤4294967295∧m.From.x1.Hi - m.From.x1.Lo=m.To.x1.Hi - m.To.x1.Lo
 n2:0≤m.From.x2.Lo∧m.From.x2.Lo≤m.From.x2.Hi∧m.From.x2.Hi≤255∧0≤m.To.x2.Lo∧m.To.x2.Hi≤255∧m.From.x2.Hi - m.From.x2.Lo=m.To.x2.Hi - m.To.x2.Lo
 n3:0≤m.From.x3.Lo∧m.From.x3.Lo≤m.From.x3.Hi∧m.From.x3.Hi≤65535∧0≤m.To.x3.Lo∧m.To.x3.Hi≤65535∧m.From.x3.Hi - m.From.x3.Lo=m.To.x3.Hi - m.To.x3.Lo
 n4:0≤m.From.x4.Lo∧m.From.x4.Lo≤m.From.x4.Hi∧m.From.x4.Hi≤65535∧0≤m.To.x4.Lo∧m.To.x4.Hi≤65535∧m.From.x4.Hi - m.From.x4.Lo=m.To.x4.Hi - m.To.x4.Lo
theorem Z2g {e:Bool} {r:List Bx × Int} (h:(kp e r).2=false):e=false∧r.2=0∧(kp e r).1=r.1:=by
 unfold kp at h ⊢
 split at h
 ·cases h
 ·rename_i hn
  rw [if_neg hn]
  refine⟨?_,?_,rfl⟩
  ·cases e with
   | true=>exact absurd (Or.inl rfl) hn
   | false=>rfl
  ·exact Classical.byContradiction fun h0=>hn (Or.inr h0)
theorem kp_sem {e:Bool} {op:Bool→Bool→Bool} {a b:List Bx} (h:(kp e (cmb op a b)).2=false):e=false∧∀ p,vP tops5 p→mem (kp e (cmb op a b)).1 p=op (mem (a.filter vB) p) (mem (b.filter vB) p):=by
 obtain⟨h1,h2,h3⟩:=Z2g h
 exact⟨h1,fun p hp=>by rw [h3,(cmb_ok op a b).2 h2 p hp]⟩
theorem Zo4:∀(l:List Bx) (e:Bool) (s:List Bx),(partsR e s l).2.2=false→e=false
 | [],_,_,h=>h
 | b :: l,e,s,h=>by
  simp only [partsR] at h
  split at h
  ·have h1:=Zo4 l _ _ h
   exact(kp_sem (kp_sem h1).1).1
  ·exact Zo4 l _ _ h
end Go.AM
set_option maxRecDepth 100000
namespace Go.AM
open Go
theorem Zyc:Zkh=some full:=by kernel_rfl
abbrev QSt:=Bool × List Bx × List Bx
structure QOk (s:QSt):Prop where
 o:VS s.2.1
 r:VS s.2.2
theorem VS.full:VS [full]:=VS.of (CFb.single Zoi) (by simp)
end Go.AM
set_option maxRecDepth 100000
namespace Go.AM
open Go
def cutIn:List (List Int)→RL→Prop
 | [],[]=>True
 | C :: Cs,r :: b=>r.Lo∈C∧r.Hi + 1∈C∧cutIn Cs b
 | _,_=>False
def endsIn:List (List Int)→List Int→Prop
 | [],[]=>True
 | C :: Cs,t :: ts=>0∈C∧t + 1∈C∧endsIn Cs ts
 | _,_=>False
theorem Zzs {C:List Int} {Cs:List (List Int)} {l:List RL} (h:∀ b∈l,cutIn (C :: Cs) b) (v:Int):∀ b∈atv l v,cutIn Cs b:=by
 intro b hb
 obtain⟨x,hx,hb⟩:=List.mem_flatMap.1 hb
 have:=h x hx
 cases x with
 | nil=>exact this.elim
 | cons r x=>
  simp only at hb
  split at hb
  ·rw [List.mem_singleton] at hb
   rw [hb]; exact this.2.2
  ·cases hb
theorem Zyd {C:List Int} {Cs:List (List Int)} {l:List RL} (h:∀ b∈l,cutIn (C :: Cs) b) {v:Int} (hv:¬ v∈C):atv l v=atv l (v - 1):=by
 unfold atv
 induction l with
 | nil=>rfl
 | cons b l ih=>
  rw [List.flatMap_cons,List.flatMap_cons,ih fun x hx=>h x (List.mem_cons_of_mem _ hx)]
  congr 1
  have hb:=h b (List.mem_cons_self ..)
  cases b with
  | nil=>exact hb.elim
  | cons r b=>
   have e:inR v r=inR (v - 1) r:=by
    rw [Bool.eq_iff_iff,Zgt,Zgt]
    have h1:r.Lo ≠ v:=fun e=>hv (e ▸ hb.1)
    have h2:r.Hi + 1 ≠ v:=fun e=>hv (e ▸ hb.2.1)
    omega
   simp only [e]
theorem Zzt {op:Bool→Bool→Bool}:∀(ts:List Int) (Cs:List (List Int)) {a b l:List RL},endsIn Cs ts→(∀ x∈a,cutIn Cs x)→(∀ x∈b,cutIn Cs x)→Is op ts a b l→∀ x∈l,cutIn Cs x
 | [],[],a,b,l,_,_,_,h,x,hx=>by
  rcases h.cf with rfl | rfl
  ·cases hx
  ·rw [List.mem_singleton] at hx; rw [hx]; trivial
 | t :: ts,C :: Cs,a,b,l,he,ha,hb,h,x,hx=>by
  obtain⟨c,rfl,ho,hc⟩:=h.cf
  obtain⟨y,hy,hx0⟩:=List.mem_flatMap.1 hx
  obtain⟨x,hxy,rfl⟩:=List.mem_map.1 hx0
  have hyo:=ho.ok y hy
  have hat:∀ v,0≤v→v≤t→Is op ts (atv a v) (atv b v) (lk c v):=fun v h0 h1=>Is.at_ ho hc h h0 h1
  have same:∀ v,¬ v∈C→0<v→v≤t→lk c v=lk c (v - 1):=fun v hv h0 h1=>by
   have g1:=hat v (by omega) h1
   rw [Zyd ha hv,Zyd hb hv] at g1
   exact g1.inj (hat (v - 1) (by omega) (by omega))
  have hp:=List.pairwise_iff_getElem.1 ho.pw
  refine⟨?_,?_,?_⟩
  ·apply Classical.byContradiction
   intro hn
   have h0:y.1.Lo ≠ 0:=fun e=>hn (e ▸ he.1)
   have e1:=same y.1.Lo hn (by omega) (by omega)
   rw [lk_mem ho hy (Int.le_refl _) hyo.2.1] at e1
   obtain⟨z,hz,h3,h4⟩:=Zj6 (c:=c) (v:=y.1.Lo - 1) (by rw [← e1]; exact hyo.2.2.2)
   rw [lk_mem ho hz h3 h4] at e1
   obtain⟨i,hi,rfl⟩:=List.getElem_of_mem hy
   obtain⟨j,hj,rfl⟩:=List.getElem_of_mem hz
   rcases Nat.lt_trichotomy i j with h5 | h5 | h5
   ·have:=(hp i j hi hj h5).1; omega
   ·subst h5; omega
   ·have hg:=hp j i hj hi h5
    have:=hg.1
    exact hg.2 (by omega) e1.symm
  ·apply Classical.byContradiction
   intro hn
   have h0:y.1.Hi ≠ t:=fun e=>hn (e ▸ he.2.1)
   have e1:=same (y.1.Hi + 1) hn (by omega) (by omega)
   rw [show y.1.Hi + 1 - 1=y.1.Hi by omega,lk_mem (v:=y.1.Hi) ho hy hyo.2.1 (Int.le_refl _)] at e1
   obtain⟨z,hz,h3,h4⟩:=Zj6 (c:=c) (v:=y.1.Hi + 1) (by rw [e1]; exact hyo.2.2.2)
   rw [lk_mem ho hz h3 h4] at e1
   obtain⟨i,hi,rfl⟩:=List.getElem_of_mem hy
   obtain⟨j,hj,rfl⟩:=List.getElem_of_mem hz
   rcases Nat.lt_trichotomy i j with h5 | h5 | h5
   ·have hg:=hp i j hi hj h5
    have:=hg.1
    exact hg.2 (by omega) e1.symm
   ·subst h5; omega
   ·have:=(hp j i hj hi h5).1; omega
  ·have g1:=hat y.1.Lo hyo.1 (by omega)
   rw [lk_mem ho hy (Int.le_refl _) hyo.2.1] at g1
   exact Zzt ts Cs he.2.2 (Zzs ha _) (Zzs hb _) g1 x hxy
 | [],_ :: _,_,_,_,h,_,_,_,_,_=>h.elim
 | _ :: _,[],_,_,_,h,_,_,_,_,_=>h.elim
def prodL:List (List Int)→Nat
 | []=>1
 | C :: Cs=>C.length * prodL Cs
theorem Zzu:∀(ts:List Int) (Cs:List (List Int)) {l:List RL},CF ts l→(∀ x∈l,cutIn Cs x)→l.length≤prodL Cs
 | [],[],l,h,_=>by rcases h with rfl | rfl <;> simp [prodL]
 | [],C :: Cs,l,h,hc=>by
  rcases h with rfl | rfl
  ·simp
  ·exact(hc [] (List.mem_singleton.2 rfl)).elim
 | t :: ts,[],l,h,hc=>by
  obtain⟨c,rfl,ho,_⟩:=h
  cases hl:flt c with
  | nil=>simp
  | cons x l=>
   have hx:=hc x (by rw [hl]; exact List.mem_cons_self ..)
   cases x with
   | nil=>have:=CF_len (t :: ts) ⟨c,rfl,ho,by assumption⟩ [] (by rw [hl]; exact List.mem_cons_self ..); simp at this
   | cons _ _=>exact hx.elim
 | t :: ts,C :: Cs,l,h,hcut=>by
  obtain⟨c,rfl,ho,hc⟩:=h
  have hin:∀ y∈c,y.1.Lo∈C∧∀ b∈y.2,cutIn Cs b:=fun y hy=>by
   have hyo:=ho.ok y hy
   have:∀ b∈y.2,cutIn (C :: Cs) (y.1 :: b):=fun b hb=>hcut _ (List.mem_flatMap.2 ⟨y,hy,List.mem_map.2 ⟨b,hb,rfl⟩⟩)
   obtain⟨b0,hb0⟩:=List.exists_mem_of_ne_nil _ hyo.2.2.2
   exact⟨(this b0 hb0).1,fun b hb=>(this b hb).2.2⟩
  have hvs:(c.map (·.1.Lo)).Pairwise (·<·):=by
   rw [List.pairwise_map]
   refine List.Pairwise.imp_of_mem ?_ ho.pw
   intro x y hx _ hg
   have:=ho.ok x hx
   have:=hg.1
   omega
  have hlen:c.length≤C.length:=by
   have:=List.Nodup.length_le_of_subset (Zq0 hvs) (l₂:=C) (fun v hv=>by obtain⟨y,hy,rfl⟩:=List.mem_map.1 hv; exact(hin y hy).1)
   rwa [List.length_map] at this
  have h1:sumL (fun x:Cell=>x.2.length) c≤sumL (fun _=>prodL Cs) c:=Zzk fun y hy=>Zzu ts Cs (hc y hy) (hin y hy).2
  rw [Zzm,prodL]
  rw [Zo2] at h1
  exact Nat.le_trans h1 (Nat.mul_le_mul_right _ hlen)
def CutB (Cs:List (List Int)) (l:List Bx):Prop:=∀ b∈l,cutIn Cs (toL b)
theorem CutB.can {Cs:List (List Int)} (he:endsIn Cs tops5) {op:Bool→Bool→Bool} {a b l:List Bx} (ha:CutB Cs a) (hb:CutB Cs b) (h:Can op a b l):CutB Cs l:=fun x hx=>by
 refine Zzt tops5 Cs he (fun y hy=>?_) (fun y hy=>?_) h.is (toL x) (List.mem_map_of_mem hx)
 ·obtain⟨z,hz,rfl⟩:=List.mem_map.1 hy; exact ha z hz
 ·obtain⟨z,hz,rfl⟩:=List.mem_map.1 hy; exact hb z hz
theorem CutB.size {Cs:List (List Int)} {l:List Bx} (h:CFb l) (hc:CutB Cs l):l.length≤prodL Cs:=by
 have:=Zzu tops5 Cs h (fun y hy=>by obtain⟨z,hz,rfl⟩:=List.mem_map.1 hy; exact hc z hz)
 rwa [List.length_map] at this
theorem CutB.nil (Cs:List (List Int)):CutB Cs []:=fun _ h=>(by cases h)
theorem CutB.one {Cs:List (List Int)} {b:Bx} (h:cutIn Cs (toL b)):CutB Cs [b]:=fun x hx=>by rw [List.mem_singleton] at hx; rw [hx]; exact h
theorem CutB.mkF {Cs:List (List Int)} (he:endsIn Cs tops5):∀(l s:List Bx),CutB Cs s→CutB Cs l→CutB Cs (mkF s l).1
 | [],s,hs,_=>hs
 | b :: l,s,hs,hl=>by
  simp only [AM.mkF]
  split
  ·exact CutB.mkF he l _ (CutB.can he hs (CutB.one (hl b (List.mem_cons_self ..))) (Zc8 oO s [b])) fun x hx=>hl x (List.mem_cons_of_mem _ hx)
  ·exact CutB.nil Cs
theorem CutB.st {Cs:List (List Int)} (he:endsIn Cs tops5) {s:List Bx} (hs:CutB Cs (s.filter vB)):CutB Cs (st s).1:=by
 unfold AM.st
 split
 ·rename_i h
  have hv:=Zl3.1 h
  rw [List.filter_eq_self.2 fun x hx=>ok_vB (hv.ok x hx)] at hs
  exact hs
 ·exact CutB.mkF he _ _ (CutB.nil Cs) hs
theorem CutB.kp {Cs:List (List Int)} {e:Bool} {r:List Bx × Int} (h:CutB Cs r.1):CutB Cs (kp e r).1:=by
 unfold AM.kp
 split
 ·exact CutB.nil Cs
 ·exact h
theorem CutB.cmb {Cs:List (List Int)} (he:endsIn Cs tops5) {op:Bool→Bool→Bool} {a b:List Bx} (ha:CutB Cs (a.filter vB)) (hb:CutB Cs (b.filter vB)):CutB Cs (cmb op a b).1:=by
 unfold AM.cmb
 split
 ·exact CutB.nil Cs
 ·split
  ·exact CutB.nil Cs
  ·unfold capB
   split
   ·exact CutB.can he (CutB.st he ha) (CutB.st he hb) (Zc8 _ _ _)
   ·exact CutB.nil Cs
theorem CutB.filter {Cs:List (List Int)} {a:List Bx} (h:CutB Cs a):CutB Cs (a.filter vB):=fun x hx=>h x (List.mem_filter.1 hx).1
end Go.AM
set_option maxRecDepth 100000
namespace Go.AM
open Go
theorem Zwh {t:Zf} (ht:TOk t):Ok (Zei t) fun r=>Zci r.1∧TOk r.2:=by
 unfold Zei
 refine Ok.bind (Zoj ht) fun r1 ⟨a1,h1⟩=>Ok.bind (Zoj h1) fun r3 ⟨a3,h3⟩=>?_
 refine Ok.bind (Zdt h3 6 (by omega) (by omega)) fun r5 ⟨⟨c0,c1⟩,h5⟩=>?_
 refine Ok.bind (Ok.idx (p:=fun x=>0≤x∧x<256) c0 (by simpa using c1) fun x hx=>?_) fun x7 hx7=>?_
 ·simp only [List.mem_cons,List.not_mem_nil,or_false] at hx
  omega
 refine Ok.bind (Zm5 h5 (by omega) (by omega)) fun r9 ⟨a9,h9⟩=>Ok.bind (Zm5 h9 (by omega) (by omega)) fun r11 ⟨a11,h11⟩=>Ok.ret ⟨?_,h11⟩
 have g9:=Zuf r9.1
 have g11:=Zuf r11.1
 refine⟨?_,?_,?_,?_,?_,trivial⟩ <;> simp only [Ziy,Zl8,ok_u8] <;> omega
theorem Zwi {α ρ:Type}:∀(xs:List α) (i:Nat),findI (fun _ _=>(none:Option ρ)) i xs=none
 | [],_=>rfl
 | _ :: xs,i=>Zwi xs (i + 1)
end Go.AM
set_option maxRecDepth 100000
namespace Go.AM
open Go
end Go.AM
set_option maxRecDepth 100000
namespace Go.AM
open Go
theorem Zzv {s:ISt} (h:ISok s):SetOr (resA s):=by
 unfold resA
 split
 ·exact⟨VS.nil,Or.inr rfl⟩
 ·exact⟨h.vs,Or.inl rfl⟩
end Go.AM
set_option maxRecDepth 100000
namespace Go.AM
open Go
structure HIn (h:Zh):Prop where
 m:BIn h.Match
 a0:0≤h.Addr
 a1:h.Addr≤4294967295
 p:RIn h.Ports
def vH (h:Zh):Bool:=vB h.Match && decide (h.Ports.Lo≤h.Ports.Hi) && decide (h.Ports.Hi≤65535)
theorem Zif (h:Zh):Zb5 h=some (vH h):=by
 unfold Zb5 vH
 rw [Zox]
 simp only [Option.bind_some]
 rw [show Zi2 3=some 65535 from rfl]
 cases vB h.Match <;> cases decide (h.Ports.Lo≤h.Ports.Hi) <;> simp
theorem Zim (h:Zh):Zcn h=some (vH h):=by
 unfold Zcn vH
 rw [Zm6]
 rfl
theorem vH_ok {h:Zh} (hi:HIn h) (hv:vH h=true):BOk h.Match∧ROk 65535 h.Ports:=by
 unfold vH at hv
 simp only [Bool.and_eq_true,decide_eq_true_eq] at hv
 exact⟨vB_ok hi.m hv.1.1,⟨hi.p.h0,hv.1.2,hv.2⟩⟩
def tgt (h:Zh) (b:Bx):Bx:=⟨⟨h.Addr,h.Addr⟩,b.x1,b.x2,h.Ports,b.x4⟩
theorem Zwj (h:Zh) (b:Bx):Zf9 h b=some (tgt h b):=rfl
theorem tgt_ok {h:Zh} (hi:HIn h) (hv:vH h=true) {b:Bx} (hb:BOk b):BOk (tgt h b):=
 ⟨⟨hi.a0,Int.le_refl _,hi.a1⟩,hb.h1,hb.h2,(vH_ok hi hv).2,hb.h4⟩
def freeB (f:Nat) (b:Bx):Bx:=b.set (f:Int) ⟨0,topOf (f:Int)⟩
theorem Zye {f:Nat} (hf:f<5) {b:Bx} (h:BOk b):BOk (freeB f b):=by
 have r:∀ t:Int,0≤t→ROk t ⟨0,t⟩:=fun t ht=>⟨Int.le_refl _,ht,Int.le_refl _⟩
 rcases fiveN hf with rfl | rfl | rfl | rfl | rfl
 ·exact⟨r 4294967295 (by decide),h.h1,h.h2,h.h3,h.h4⟩
 ·exact⟨h.h0,r 4294967295 (by decide),h.h2,h.h3,h.h4⟩
 ·exact⟨h.h0,h.h1,r 255 (by decide),h.h3,h.h4⟩
 ·exact⟨h.h0,h.h1,h.h2,r 65535 (by decide),h.h4⟩
 ·exact⟨h.h0,h.h1,h.h2,h.h3,r 65535 (by decide)⟩
noncomputable def freeA (a:List Bx) (f:Nat):List Bx × Int:=if (st a).2 ≠ 0 then ([],(st a).2) else capB (can oO ((st a).1.map (freeB f)) [])
theorem Zta (a:List Bx) (f:Nat):SetOr (freeA a f):=by
 unfold freeA
 split
 ·rename_i h; rw [(st_ok a).1.three h]; exact⟨VS.nil,Or.inr rfl⟩
 ·exact Zzq
theorem Z2h {a:List Bx} (ha:InL a) {f:Nat} (hf:f<5):Zhf a (f:Int)=some (freeA a f):=by
 have sa:=(st_ok a).1.vs
 have la:=sa.len
 unfold Zhf freeA
 rw [Zld ha.len ha.bin]
 simp only [Option.bind_some,bne_iff_ne]
 split
 ·rfl
 ·rw [if_pos (by unfold lim; omega)]
  have:=Zch (L:=Zd3 (f:Int) (st a)) (st a).1 (stepN (freeB f)) id (fun _ v=>v.length=(st a).1.length) (by omega) (fun n v i hi hs=>by
   have hv:i<v.length:=by omega
   rw [Zd3]
   have d1:decide ((f:Int) ≥ 0)=true:=by simp
   have d2:decide ((f:Int)<5)=true:=by simp; omega
   simp only [show ((i:Int)<((st a).1.length:Int)) from by omega,decide_true,if_true,Option.bind_some,d1,d2,Bool.and_self,wsucc (by omega:i<1000000000001),Zzi hf,Z5 hv]
   rw [if_pos ⟨by omega,by omega⟩]
   simp only [Option.bind_some,Int.toNat_natCast]
   have h3:stepN (freeB f) v i (st a).1[i]=v.set i (freeB f v[i]):=by unfold stepN; rw [List.getElem?_eq_getElem hv]
   rw [h3]
   exact⟨rfl,by rw [List.length_set]; exact hs⟩) (fun n v hs=>by rw [Zd3]; simp) (st a).1 rfl
  have h2:=Zly (freeB f) (st a).1 []
  rw [List.nil_append,List.nil_append,List.length_nil] at h2
  rw [this.1,h2]
  simp only [id,Option.bind_some]
  rw [combO (by rw [List.length_map]; simp; omega) (fun x hx=>by
   obtain⟨y,hy,rfl⟩:=List.mem_map.1 hx
   exact Zye hf (sa.ok y hy)) (fun x hx=>by cases hx)]
  rfl
theorem Zwk {l:List Bx} (hl:l.length≤300000) (hok:∀ x∈l,BOk x) (hsz:(can oO l []).length≤2000000000):Zgr l=some (can oO l []):=by
 unfold Zgr
 rw [Zwa (by omega)]
 simp only [Option.bind_some]
 rw [List.filter_eq_self.2 fun x hx=>ok_vB (hok x hx),Zqz (k:=0) (by simp; omega) hok (fun x hx=>by cases hx) (by rw [opc0]; exact Zc8 oO l []) hsz]
 rfl
theorem Z2i {f:Nat} (hf:f<5):full.get (f:Int)=⟨0,topOf (f:Int)⟩:=by
 rcases fiveN hf with rfl | rfl | rfl | rfl | rfl <;> rfl
theorem Z2j {a:List Bx} (ha:InL a) {f:Nat} (hf:f<5) (hsz:(can oO ((st a).1.map (freeB f)) []).length≤2000000000):Zid a (f:Int)=some (freeA a f):=by
 have sa:=(st_ok a).1.vs
 have la:=sa.len
 unfold Zid freeA
 rw [Zq2 ha.len ha.bin]
 have d1:decide ((f:Int)<0)=false:=by simp
 have d2:decide ((f:Int) ≥ 5)=false:=by simp; omega
 simp only [Option.bind_some,d1,d2,Bool.or_false,bne_iff_ne]
 split
 ·rename_i h
  rw [(st_ok a).1.three h]
 ·have:=Zch (L:=Zeq (f:Int) (st a)) (st a).1 (fun s _ x=>s++[freeB f x]) id (fun i s=>s.length≤i) (by omega) (fun n s i hi hs=>by
   rw [Zeq]
   simp only [show ((i:Int)<((st a).1.length:Int)) from by omega,decide_true,if_true,Z5 hi,Option.bind_some,Zoh,wsucc (by omega:i<1000000000001),List.length_singleton,Z2i hf]
   rw [if_pos ⟨by omega,by omega⟩,if_pos ⟨by omega,by omega⟩,if_pos (show s.length + 1≤lim by unfold lim; omega)]
   exact⟨rfl,by simp; omega⟩) (fun n s hs=>by rw [Zeq]; simp) [] (Nat.le_refl _)
  rw [this.1,Zih]
  simp only [id,List.nil_append,Option.bind_some]
  rw [Zwk (by rw [List.length_map]; omega) (fun x hx=>by
   obtain⟨y,hy,rfl⟩:=List.mem_map.1 hx
   exact Zye hf (sa.ok y hy)) hsz]
  simp only [Option.bind_some,Zo0]
noncomputable def uF (e:Bool) (a:List Bx) (f:Nat):=kp e (freeA a f)
theorem uF_vs (e:Bool) (a:List Bx) (f:Nat):VS (uF e a f).1∧((uF e a f).2=true→(uF e a f).1=[]):=kp_vs (Zta _ _)
theorem lF_eq {e:Bool} {a:List Bx} (ha:InL a) {f:Nat} (hf:f<5):Zdf (le e) a (f:Int)=some ((uF e a f).1,le (uF e a f).2):=by
 unfold Zdf uF
 rw [Z2h ha hf]
 simp only [Option.bind_some]
 rw [Zol (Zta _ _)]; rfl
theorem fF_eq {e:Bool} {a:List Bx} (ha:InL a) {f:Nat} (hf:f<5) (hsz:(can oO ((st a).1.map (freeB f)) []).length≤2000000000):Zb6 ⟨e⟩ a (f:Int)=some ((uF e a f).1,⟨(uF e a f).2⟩):=by
 unfold Zb6 uF
 cases e with
 | true=>simp [kp]
 | false=>
  rw [if_neg (by simp),Z2j ha hf hsz]
  simp only [Option.bind_some]
  have ho:=Zta a f
  by_cases h0:(freeA a f).2=0
  ·simp [kp,h0]
  ·rw [ho.three h0]; simp [kp]
theorem Zyf {t:Int} {ts:List Int} {T R:List RL} (hR:Is oO ts T [] R) {r:Zb} (hr:0≤r.Lo∧r.Lo≤r.Hi∧r.Hi≤t):Is oO (t :: ts) (T.map (r :: ·)) [] (R.map (r :: ·)):=by
 constructor
 ·by_cases h:R=[]
  ·rw [h]; exact CF_nil _
  ·refine⟨[(r,R)],by simp [flt],⟨List.pairwise_singleton ..,fun x hx=>?_⟩,fun x hx=>?_⟩
   ·rw [List.mem_singleton] at hx; subst hx; exact⟨hr.1,hr.2.1,hr.2.2,h⟩
   ·rw [List.mem_singleton] at hx; subst hx; exact hR.cf
 ·intro p hp
  cases p with
  | nil=>exact hp.elim
  | cons v p=>
   rw [Zio,Zio,Zq7,Zq7,mS_nil,oO,Bool.or_false]
   by_cases hv:inR v r=true
   ·rw [if_pos hv,if_pos hv,hR.mem p hp.2.2,mS_nil,oO,Bool.or_false]
   ·rw [if_neg hv,if_neg hv]
def apart:Zh→Nat→List Bx→List Bx
 | h,i,b :: l=>⟨⟨2 * (i:Int),2 * (i:Int)⟩,b.x1,b.x2,h.Ports,b.x4⟩ :: apart h (i + 1) l
 | _,_,[]=>[]
theorem Zwl (h:Zh):∀(l:List Bx) (i:Nat),(apart h i l).length=l.length
 | [],_=>rfl
 | b :: l,i=>by simp only [apart,List.length_cons]; rw [Zwl h l]
theorem Zyg {h:Zh} (hi:HIn h) (hv:vH h=true):∀(l:List Bx) (i:Nat),(∀ b∈l,BOk b)→i + l.length≤1000000→∃ c,(apart h i l).map toL=flt c∧Ord 4294967295 c∧(∀ x∈c,CF (tops5.drop 1) x.2)∧∀ x∈c,2 * (i:Int)≤x.1.Lo
 | [],i,_,_=>⟨[],rfl,⟨List.Pairwise.nil,fun _ h=>(by cases h)⟩,fun _ h=>(by cases h),fun _ h=>(by cases h)⟩
 | b :: l,i,hb,hl=>by
  obtain⟨c,h1,h2,h3,h4⟩:=Zyg hi hv l (i + 1) (fun x hx=>hb x (List.mem_cons_of_mem _ hx)) (by simp at hl; omega)
  simp only [List.length_cons] at hl
  have hbo:=hb b (List.mem_cons_self ..)
  have hp:=(vH_ok hi hv).2
  refine⟨(⟨2 * (i:Int),2 * (i:Int)⟩,[[b.x1,b.x2,h.Ports,b.x4]]) :: c,?_,⟨List.pairwise_cons.2 ⟨fun y hy=>?_,h2.pw⟩,fun x hx=>?_⟩,fun x hx=>?_,fun x hx=>?_⟩
  ·rw [Zh3,apart,List.map_cons,h1]; rfl
  ·have:=h4 y hy
   exact⟨by show 2 * (i:Int)<y.1.Lo; omega,fun e=>by have e:2 * (i:Int) + 1=y.1.Lo:=e; omega⟩
  ·rcases List.mem_cons.1 hx with rfl | hx
   ·exact⟨by show 0≤2 * (i:Int); omega,Int.le_refl _,by show 2 * (i:Int)≤4294967295; omega,List.cons_ne_nil _ _⟩
   ·exact h2.ok x hx
  ·rcases List.mem_cons.1 hx with rfl | hx
   ·exact Zq1 (tops5.drop 1) ⟨hbo.h1.h0,hbo.h1.h1,hbo.h1.h2,hbo.h2.h0,hbo.h2.h1,hbo.h2.h2,hp.h0,hp.h1,hp.h2,hbo.h4.h0,hbo.h4.h1,hbo.h4.h2,trivial⟩
   ·exact h3 x hx
  ·rcases List.mem_cons.1 hx with rfl | hx
   ·exact Int.le_refl _
   ·have:=h4 x hx; omega
theorem Z2k {h:Zh} (hi:HIn h) (hv:vH h=true) {l:List Bx} (hl:VS l):VS (apart h 0 l):=by
 obtain⟨c,h1,h2,h3,_⟩:=Zyg hi hv l 0 hl.ok (by have:=hl.len; omega)
 exact VS.of ⟨c,h1,h2,h3⟩ (by rw [Zwl]; exact hl.len)
noncomputable def hidG (h:Zh) (l:List Bx):List Bx:=can oO (l.map (tgt h)) []
def setA (a:Int) (b:Bx):Bx:=⟨⟨a,a⟩,b.x1,b.x2,b.x3,b.x4⟩
theorem Zuq (h:Zh):∀(l:List Bx) (i:Nat),(apart h i l).map (freeB 0)=l.map fun b=>⟨⟨0,4294967295⟩,b.x1,b.x2,h.Ports,b.x4⟩
 | [],_=>rfl
 | b :: l,i=>by simp only [apart,List.map_cons]; rw [Zuq h l]; rfl
theorem Z2l {h:Zh} (hi:HIn h) {l:List Bx}:(can oO ((apart h 0 l).map (freeB 0)) []).map (setA h.Addr)=hidG h l:=by
 obtain⟨R,hR⟩:=Is.exists_ oO (tops5.drop 1) (fun t ht=>Zx5 t (List.mem_of_mem_drop ht)) (l.map fun b=>[b.x1,b.x2,h.Ports,b.x4]) []
 have e1:((apart h 0 l).map (freeB 0)).map toL=(l.map fun b=>[b.x1,b.x2,h.Ports,b.x4]).map ((⟨0,4294967295⟩:Zb) :: ·):=by
  rw [Zuq,List.map_map,List.map_map]; rfl
 have e2:(l.map (tgt h)).map toL=(l.map fun b=>[b.x1,b.x2,h.Ports,b.x4]).map ((⟨h.Addr,h.Addr⟩:Zb) :: ·):=by
  rw [List.map_map,List.map_map]; rfl
 have g1:=(Zc8 oO ((apart h 0 l).map (freeB 0)) []).is
 have g2:=(Zc8 oO (l.map (tgt h)) []).is
 rw [e1] at g1
 rw [e2] at g2
 have k1:=g1.inj (Zyf (t:=4294967295) hR (r:=⟨0,4294967295⟩) ⟨by decide,by decide,by decide⟩)
 have k2:=g2.inj (Zyf (t:=4294967295) hR (r:=⟨h.Addr,h.Addr⟩) ⟨hi.a0,Int.le_refl _,hi.a1⟩)
 refine Zr8 ?_
 unfold hidG
 rw [k2]
 have hlen:∀ b∈R,b.length=4:=fun b hb=>CF_len _ hR.cf b hb
 have e3:∀(X:List Bx),X.map toL=R.map ((⟨0,4294967295⟩:Zb) :: ·)→(X.map (setA h.Addr)).map toL=R.map ((⟨h.Addr,h.Addr⟩:Zb) :: ·):=by
  intro X hX
  have:(X.map (setA h.Addr)).map toL=(X.map toL).map fun b=>(⟨h.Addr,h.Addr⟩:Zb) :: b.drop 1:=by
   rw [List.map_map,List.map_map]; rfl
  rw [this,hX,List.map_map]
  rfl
 exact e3 _ k1
noncomputable def hidA (e:Bool) (h:Zh) (l:List Bx):List Bx × Bool:=if e=true∨¬ (hidG h l).length≤4096 then ([],true) else (hidG h l,false)
theorem Zvq (h:Zh) (l:List Bx):CFb (hidG h l):=(Zc8 oO _ _).cf
theorem Z3l (e:Bool) (h:Zh) (l:List Bx):VS (hidA e h l).1∧((hidA e h l).2=true→(hidA e h l).1=[]):=by
 unfold hidA
 split
 ·exact⟨VS.nil,fun _=>rfl⟩
 ·rename_i hn
  refine⟨VS.of (Zvq h l) ?_,fun h=>by cases h⟩
  apply Classical.byContradiction
  intro h2
  exact hn (Or.inr h2)
def stepI {α:Type} (g:Nat→α→α) (s:List α) (i:Nat) (_:α):List α:=match s[i]? with
 | some x=>s.set i (g i x)
 | none=>s
def mapI {α:Type} (g:Nat→α→α):Nat→List α→List α
 | i,x :: l=>g i x :: mapI g (i + 1) l
 | _,[]=>[]
theorem Zur {α:Type} (g:Nat→α→α):∀(l pre:List α),foldI (stepI g) (pre++l) pre.length l=pre++mapI g pre.length l
 | [],pre=>by simp [foldI,mapI]
 | x :: l,pre=>by
  have e:foldI (stepI g) (pre++x :: l) pre.length (x :: l)=foldI (stepI g) (stepI g (pre++x :: l) pre.length x) (pre.length + 1) l:=rfl
  rw [e]
  have h1:(pre++x :: l)[pre.length]? = some x:=by rw [List.getElem?_append_right (Nat.le_refl _),Nat.sub_self]; rfl
  have h2:(pre++x :: l).set pre.length (g pre.length x)=(pre++[g pre.length x])++l:=by rw [List.set_append_right _ _ (Nat.le_refl _),Nat.sub_self]; simp
  have h3:stepI g (pre++x :: l) pre.length x=(pre++[g pre.length x])++l:=by unfold stepI; rw [h1]; exact h2
  rw [h3]
  have:=Zur g l (pre++[g pre.length x])
  rw [List.length_append,List.length_singleton] at this
  rw [this]
  simp [mapI]
theorem Zus (h:Zh):∀(l:List Bx) (i:Nat),mapI (fun i (b:Bx)=>(⟨⟨2 * (i:Int),2 * (i:Int)⟩,b.x1,b.x2,h.Ports,b.x4⟩:Bx)) i l=apart h i l
 | [],_=>rfl
 | b :: l,i=>by simp only [mapI,apart]; rw [Zus h l]
theorem Z1b {h:Zh} (hi:HIn h) (hv:vH h=true) {e:Bool} {l:List Bx} (hl:VS l):Zek (le e) h l=some ((hidA e h l).1,le (hidA e h l).2):=by
 have ll:=hl.len
 unfold Zek
 rw [if_pos (by unfold lim; omega)]
 have h1:=Zch (L:=Zb8 h l) l (stepI (fun i (b:Bx)=>(⟨⟨2 * (i:Int),2 * (i:Int)⟩,b.x1,b.x2,h.Ports,b.x4⟩:Bx))) id (fun _ v=>v.length=l.length) (by omega) (fun n v i hil hs=>by
  have hiv:i<v.length:=by omega
  rw [Zb8]
  simp only [show ((i:Int)<(l.length:Int)) from by omega,decide_true,if_true,Option.bind_some,Z5 hiv,wsucc (by omega:i<1000000000001),Int.toNat_natCast]
  rw [wi64 (x:=(2:Int) * (i:Int)) (by omega) (by omega),wu32 (by omega) (by omega),Z5 (by rw [List.length_set]; exact hiv),List.getElem_set_self]
  simp only [Option.bind_some,List.set_set]
  have h3:stepI (fun i (b:Bx)=>(⟨⟨2 * (i:Int),2 * (i:Int)⟩,b.x1,b.x2,h.Ports,b.x4⟩:Bx)) v i l[i]=v.set i ⟨⟨2 * (i:Int),2 * (i:Int)⟩,v[i].x1,v[i].x2,h.Ports,v[i].x4⟩:=by unfold stepI; rw [List.getElem?_eq_getElem hiv]
  rw [h3]
  exact⟨rfl,by rw [List.length_set]; exact hs⟩) (fun n v hs=>by rw [Zb8]; simp) l rfl
 have h2:=Zur (fun i (b:Bx)=>(⟨⟨2 * (i:Int),2 * (i:Int)⟩,b.x1,b.x2,h.Ports,b.x4⟩:Bx)) l []
 rw [List.nil_append,List.nil_append,List.length_nil,Zus] at h2
 rw [h1.1,h2]
 simp only [id,Option.bind_some]
 have hav:=Z2k hi hv hl
 rw [show ((0:Int))=((0:Nat):Int) from rfl,lF_eq hav.inL (f:=0) (by omega)]
 simp only [Option.bind_some]
 have hfv:=(uF_vs e (apart h 0 l) 0).1
 have hfl:=hfv.len
 rw [if_pos (by unfold lim; omega)]
 have h4:=Zch (L:=Zb9 h ((uF e (apart h 0 l) 0).1,le (uF e (apart h 0 l) 0).2)) (uF e (apart h 0 l) 0).1 (stepN (setA h.Addr)) id (fun _ v=>v.length=(uF e (apart h 0 l) 0).1.length) (by omega) (fun n v i hil hs=>by
  have hiv:i<v.length:=by omega
  rw [Zb9]
  simp only [show ((i:Int)<((uF e (apart h 0 l) 0).1.length:Int)) from by omega,decide_true,if_true,Option.bind_some,Z5 hiv,wsucc (by omega:i<1000000000001),Int.toNat_natCast]
  have h3:stepN (setA h.Addr) v i (uF e (apart h 0 l) 0).1[i]=v.set i (setA h.Addr v[i]):=by unfold stepN; rw [List.getElem?_eq_getElem hiv]
  rw [h3]
  exact⟨rfl,by rw [List.length_set]; exact hs⟩) (fun n v hs=>by rw [Zb9]; simp) (uF e (apart h 0 l) 0).1 rfl
 have h5:=Zly (setA h.Addr) (uF e (apart h 0 l) 0).1 []
 rw [List.nil_append,List.nil_append,List.length_nil] at h5
 rw [show ((0:Nat):Int)=0 from rfl,h4.1,h5]
 simp only [id,Option.bind_some]
 have hs:=Z2l hi (l:=l)
 have hlen:(can oO ((apart h 0 l).map (freeB 0)) []).length=(hidG h l).length:=by rw [← hs,List.length_map]
 have hfa:freeA (apart h 0 l) 0=capB (can oO ((apart h 0 l).map (freeB 0)) []):=by
  unfold freeA
  rw [Zvn hav]
  simp
 unfold uF hidA
 rw [hfa]
 unfold capB
 by_cases hsz:(hidG h l).length≤4096
 ·rw [if_pos (by omega)]
  cases e with
  | true=>simp [kp]
  | false=>
   simp only [kp,Bool.false_eq_true,false_or,ne_eq,not_true_eq_false,if_false,hs,hsz,or_self]
 ·rw [if_neg (by omega)]
  simp [kp,hsz]
end Go.AM
set_option maxRecDepth 100000
namespace Go.AM
open Go
def hfrm (h:Zh):Bx:=if vH h=true then h.Match else badB
theorem Zyh {h:Zh} (hv:vH h=true):vB h.Match=true:=by
 unfold vH at hv; simp only [Bool.and_eq_true] at hv; exact hv.1.1
theorem hfrm_v (h:Zh):vB (hfrm h)=vH h:=by
 unfold hfrm
 by_cases hv:vH h=true
 ·rw [if_pos hv,hv,Zyh hv]
 ·rw [if_neg hv,vB_bad]; simpa using hv
theorem Z3m:BIn badB:=⟨⟨by decide,by decide,by decide,by decide⟩,⟨by decide,by decide,by decide,by decide⟩,⟨by decide,by decide,by decide,by decide⟩,⟨by decide,by decide,by decide,by decide⟩,⟨by decide,by decide,by decide,by decide⟩⟩
theorem Z3n {l:List Zh} (hin:∀ h∈l,HIn h):∀ x∈l.map hfrm,BIn x:=fun x hx=>by
 obtain⟨h,hm,rfl⟩:=List.mem_map.1 hx
 unfold hfrm
 split
 ·exact(hin h hm).m
 ·exact Z3m
theorem Z0h {l:List Zh} (hl:l.length≤100000):Zg3 l=some (l.map hfrm):=by
 unfold Zg3
 have:=Zch (L:=Zdo l) l (fun s _ x=>s++[hfrm x]) id (fun i s=>s.length=i) (by omega) (fun n s i hi hs=>by
  rw [Zdo]
  simp only [show ((i:Int)<(l.length:Int)) from by omega,decide_true,if_true,Z5 hi,Option.bind_some,Zif,wsucc (by omega:i<1000000000001),List.length_singleton]
  by_cases h:vH l[i]=true
  ·have e:hfrm l[i]=(l[i]).Match:=by unfold hfrm; rw [if_pos h]
   rw [h,e]
   simp only [Bool.not_true,Bool.false_eq_true,if_false,Option.bind_some]
   rw [if_pos (show s.length + 1≤lim by unfold lim; omega)]
   exact⟨rfl,by simp [hs]⟩
  ·have e:hfrm l[i]=badB:=by unfold hfrm; rw [if_neg h]
   rw [Bool.not_eq_true] at h
   rw [h,e]
   simp only [Bool.not_false,if_true,Option.bind_some]
   rw [if_pos (show s.length + 1≤lim by unfold lim; omega)]
   exact⟨rfl,by simp [hs]⟩) (fun n s hs=>by rw [Zdo]; simp) [] rfl
 rw [this.1,Zih]
 rfl
noncomputable def hstepI (s:ISt) (h:Zh) (p:List Bx):ISt:=if vH h=true then ((uU (hidA s.1 h p).2 s.2 (hidA s.1 h p).1).2,(uU (hidA s.1 h p).2 s.2 (hidA s.1 h p).1).1) else s
noncomputable def imgH:ISt→List Zh→List (List Bx)→ISt
 | s,m :: l,p :: ps=>imgH (hstepI s m p) l ps
 | s,_,_=>s
theorem Zwm {s:ISt} (h:ISok s) (m:Zh) (p:List Bx):ISok (hstepI s m p):=by
 unfold hstepI
 split
 ·exact⟨(uU_vs _ _ _).1,(uU_vs _ _ _).2⟩
 ·exact h
theorem Zzw:∀(l:List Zh) (ps:List (List Bx)) (s:ISt),ISok s→ISok (imgH s l ps)
 | [],_,_,h=>by unfold imgH; exact h
 | _ :: _,[],_,h=>by unfold imgH; exact h
 | m :: l,p :: ps,s,h=>by unfold imgH; exact Zzw l ps _ (Zwm h m p)
theorem Zo5 {e:Bool} {a b:List Bx} (h:(uU e a b).2=false):e=false:=(kp_sem h).1
theorem Z2m {e:Bool} {a b:List Bx} (h:(uI e a b).2=false):e=false:=(kp_sem h).1
theorem Z2n {e:Bool} {a b:List Bx} (h:(uS e a b).2=false):e=false:=(kp_sem h).1
theorem Zlz {e:Bool} {h:Zh} {p:List Bx} (hh:(hidA e h p).2=false):e=false∧hidA e h p=(hidG h p,false):=by
 unfold hidA at hh ⊢
 split at hh
 ·cases hh
 ·rename_i hn
  rw [if_neg hn]
  refine⟨?_,rfl⟩
  cases e with
  | true=>exact absurd (Or.inl rfl) hn
  | false=>rfl
theorem Znc:∀(l:List Zh) (ps:List (List Bx)) (s:ISt),(imgH s l ps).1=false→s.1=false
 | [],_,_,h=>by unfold imgH at h; exact h
 | _ :: _,[],_,h=>by unfold imgH at h; exact h
 | m :: l,p :: ps,s,h=>by
  unfold imgH at h
  have h1:=Znc l ps _ h
  unfold hstepI at h1
  split at h1
  ·exact(Zlz (Zo5 h1)).1
  ·exact h1
abbrev HSt:=Bool × List Bx × List Bx
noncomputable def hP (s:HSt) (h:Zh):=uI s.1 s.2.1 [h.Match]
noncomputable def hQ (s:HSt) (h:Zh):=uS (hP s h).2 s.2.1 [h.Match]
noncomputable def hH (s:HSt) (h:Zh):=hidA (hQ s h).2 h (hP s h).1
noncomputable def hU (s:HSt) (h:Zh):=uU (hH s h).2 s.2.2 (hH s h).1
noncomputable def hstep (s:HSt) (h:Zh):HSt:=if vH h=true then ((hU s h).2,(hQ s h).1,(hU s h).1) else s
theorem Zut:∀(l:List Zh) (s:HSt),(l.foldl hstep s).1=false→s.1=false
 | [],_,h=>h
 | m :: l,s,h=>by
  rw [List.foldl_cons] at h
  have h1:=Zut l _ h
  unfold hstep at h1
  split at h1
  ·exact Z2m (Z2n (Zlz (Zo5 h1)).1)
  ·exact h1
noncomputable def sepH (e:Bool) (s out:List Bx) (l:List Zh):HSt:=((imgH ((partsR e s (l.map hfrm)).2.2,out) l (partsR e s (l.map hfrm)).1).1,(partsR e s (l.map hfrm)).2.1,(imgH ((partsR e s (l.map hfrm)).2.2,out) l (partsR e s (l.map hfrm)).1).2)
theorem Zwn {l:List Zh} {s:HSt} (hs:s.1=true):(l.foldl hstep s).1=true:=by
 cases h:(l.foldl hstep s).1 with
 | true=>rfl
 | false=>rw [Zut _ _ h] at hs; cases hs
theorem Ztb:∀(l:List Zh) (e:Bool) (s out:List Bx),(sepH e s out l).1=(l.foldl hstep (e,s,out)).1∧((sepH e s out l).1=false→sepH e s out l=l.foldl hstep (e,s,out))
 | [],e,s,out=>⟨rfl,fun _=>rfl⟩
 | m :: l,e,s,out=>by
  by_cases hv:vH m=true
  ·have hf:vB (hfrm m)=true:=by rw [hfrm_v]; exact hv
   have ef:hfrm m=m.Match:=by unfold hfrm; rw [if_pos hv]
   have e1:partsR e s ((m :: l).map hfrm)=((hP (e,s,out) m).1 :: (partsR (hQ (e,s,out) m).2 (hQ (e,s,out) m).1 (l.map hfrm)).1,(partsR (hQ (e,s,out) m).2 (hQ (e,s,out) m).1 (l.map hfrm)).2):=by
    rw [List.map_cons]
    simp only [partsR,ef]
    rw [if_pos (Zyh hv)]
    rfl
   have e2:(m :: l).foldl hstep (e,s,out)=l.foldl hstep ((hU (e,s,out) m).2,(hQ (e,s,out) m).1,(hU (e,s,out) m).1):=by
    rw [List.foldl_cons]
    unfold hstep
    rw [if_pos hv]
   rw [e2]
   have ih:=Ztb l (hU (e,s,out) m).2 (hQ (e,s,out) m).1 (hU (e,s,out) m).1
   have e3:∀ f,imgH (f,out) (m :: l) ((hP (e,s,out) m).1 :: (partsR (hQ (e,s,out) m).2 (hQ (e,s,out) m).1 (l.map hfrm)).1)=imgH ((uU (hidA f m (hP (e,s,out) m).1).2 out (hidA f m (hP (e,s,out) m).1).1).2,(uU (hidA f m (hP (e,s,out) m).1).2 out (hidA f m (hP (e,s,out) m).1).1).1) l (partsR (hQ (e,s,out) m).2 (hQ (e,s,out) m).1 (l.map hfrm)).1:=by
    intro f
    simp only [imgH,hstepI,if_pos hv]
   have e4:sepH e s out (m :: l)=((imgH ((uU (hidA (partsR (hQ (e,s,out) m).2 (hQ (e,s,out) m).1 (l.map hfrm)).2.2 m (hP (e,s,out) m).1).2 out (hidA (partsR (hQ (e,s,out) m).2 (hQ (e,s,out) m).1 (l.map hfrm)).2.2 m (hP (e,s,out) m).1).1).2,(uU (hidA (partsR (hQ (e,s,out) m).2 (hQ (e,s,out) m).1 (l.map hfrm)).2.2 m (hP (e,s,out) m).1).2 out (hidA (partsR (hQ (e,s,out) m).2 (hQ (e,s,out) m).1 (l.map hfrm)).2.2 m (hP (e,s,out) m).1).1).1) l (partsR (hQ (e,s,out) m).2 (hQ (e,s,out) m).1 (l.map hfrm)).1).1,(partsR (hQ (e,s,out) m).2 (hQ (e,s,out) m).1 (l.map hfrm)).2.1,(imgH ((uU (hidA (partsR (hQ (e,s,out) m).2 (hQ (e,s,out) m).1 (l.map hfrm)).2.2 m (hP (e,s,out) m).1).2 out (hidA (partsR (hQ (e,s,out) m).2 (hQ (e,s,out) m).1 (l.map hfrm)).2.2 m (hP (e,s,out) m).1).1).2,(uU (hidA (partsR (hQ (e,s,out) m).2 (hQ (e,s,out) m).1 (l.map hfrm)).2.2 m (hP (e,s,out) m).1).2 out (hidA (partsR (hQ (e,s,out) m).2 (hQ (e,s,out) m).1 (l.map hfrm)).2.2 m (hP (e,s,out) m).1).1).1) l (partsR (hQ (e,s,out) m).2 (hQ (e,s,out) m).1 (l.map hfrm)).1).2):=by
    unfold sepH
    rw [e1]
    simp only [e3]
   cases hr:(partsR (hQ (e,s,out) m).2 (hQ (e,s,out) m).1 (l.map hfrm)).2.2 with
   | true=>
    have k1:(sepH e s out (m :: l)).1=true:=by
     rw [e4,hr]
     cases h:(imgH ((uU (hidA true m (hP (e,s,out) m).1).2 out (hidA true m (hP (e,s,out) m).1).1).2,(uU (hidA true m (hP (e,s,out) m).1).2 out (hidA true m (hP (e,s,out) m).1).1).1) l (partsR (hQ (e,s,out) m).2 (hQ (e,s,out) m).1 (l.map hfrm)).1).1 with
     | true=>rfl
     | false=>have:=(Zlz (Zo5 (Znc _ _ _ h))).1; cases this
    have k2:(l.foldl hstep ((hU (e,s,out) m).2,(hQ (e,s,out) m).1,(hU (e,s,out) m).1)).1=true:=by
     cases hu:(hU (e,s,out) m).2 with
     | true=>exact Zwn rfl
     | false=>
      rw [hu] at ih
      rw [← ih.1]
      have hq:(hQ (e,s,out) m).2=false:=(Zlz (Zo5 hu)).1
      rw [hq] at hr
      cases h:(sepH false (hQ (e,s,out) m).1 (hU (e,s,out) m).1 l).1 with
      | true=>rfl
      | false=>have:=Znc _ _ _ h; rw [hr] at this; cases this
    exact⟨by rw [k1,k2],fun h=>by rw [k1] at h; cases h⟩
   | false=>
    have hq:(hQ (e,s,out) m).2=false:=Zo4 _ _ _ hr
    have hHe:hidA false m (hP (e,s,out) m).1=hH (e,s,out) m:=by unfold hH; rw [hq]
    rw [hr,hHe] at e4
    cases hu:(hU (e,s,out) m).2 with
    | true=>
     have k1:(sepH e s out (m :: l)).1=true:=by
      rw [e4]
      cases h:(imgH ((uU (hH (e,s,out) m).2 out (hH (e,s,out) m).1).2,(uU (hH (e,s,out) m).2 out (hH (e,s,out) m).1).1) l (partsR (hQ (e,s,out) m).2 (hQ (e,s,out) m).1 (l.map hfrm)).1).1 with
      | true=>rfl
      | false=>have h2:(hU (e,s,out) m).2=false:=Znc _ _ _ h; rw [hu] at h2; cases h2
     have k2:(l.foldl hstep (true,(hQ (e,s,out) m).1,(hU (e,s,out) m).1)).1=true:=Zwn rfl
     exact⟨by rw [k1,k2],fun h=>by rw [k1] at h; cases h⟩
    | false=>
     rw [hu] at ih
     have k:sepH e s out (m :: l)=sepH false (hQ (e,s,out) m).1 (hU (e,s,out) m).1 l:=by
      rw [e4]
      unfold sepH
      rw [show (uU (hH (e,s,out) m).2 out (hH (e,s,out) m).1)=hU (e,s,out) m from rfl,hu,hq]
      rw [hq] at hr
      rw [hr]
     rw [k]
     exact ih
  ·have hf:vB (hfrm m)=false:=by rw [hfrm_v]; simpa using hv
   have e1:sepH e s out (m :: l)=sepH e s out l:=by
    unfold sepH
    rw [List.map_cons]
    simp only [partsR,hf,Bool.false_eq_true,if_false,imgH]
    rw [show ∀ q,hstepI q m []=q from fun q=>by unfold hstepI; rw [if_neg hv]]
   have e2:(m :: l).foldl hstep (e,s,out)=l.foldl hstep (e,s,out):=by
    rw [List.foldl_cons]
    unfold hstep
    rw [if_neg hv]
   rw [e1,e2]
   exact Ztb l e s out
noncomputable def himgA (l:List Zh) (s:List Bx):List Bx × Int:=
 let o:=l.foldl hstep ((kp false (st s)).2,(kp false (st s)).1,[])
 resA ((uU o.1 o.2.2 o.2.1).2,(uU o.1 o.2.2 o.2.1).1)
theorem Z2o (l:List Zh) (s:List Bx):himgA l s=resA ((uU (sepH (kp false (st s)).2 (kp false (st s)).1 [] l).1 (sepH (kp false (st s)).2 (kp false (st s)).1 [] l).2.2 (sepH (kp false (st s)).2 (kp false (st s)).1 [] l).2.1).2,(uU (sepH (kp false (st s)).2 (kp false (st s)).1 [] l).1 (sepH (kp false (st s)).2 (kp false (st s)).1 [] l).2.2 (sepH (kp false (st s)).2 (kp false (st s)).1 [] l).2.1).1):=by
 obtain⟨h1,h2⟩:=Ztb l (kp false (st s)).2 (kp false (st s)).1 []
 unfold himgA
 simp only
 cases h:(sepH (kp false (st s)).2 (kp false (st s)).1 [] l).1 with
 | false=>
  have e1:(l.foldl hstep ((kp false (st s)).2,(kp false (st s)).1,[])).1=false:=by rw [← h1]; exact h
  rw [h2 h,e1]
 | true=>
  rw [h] at h1
  rw [← h1]
  simp [uU,kp,resA]
theorem Zyi {l:List Zh} (hl:l.length≤100000) (hin:∀ h∈l,HIn h) {s:List Bx} (hs:InL s):Zf0 l s=some (himgA l s):=by
 rw [Z2o]
 unfold Zf0 sepH
 rw [Z0h hl,Zzr hs]
 simp only [Option.bind_some]
 have hv:VS (kp false (st s)).1:=(kp_vs (st_ok s).1).1
 rw [Z2f (by rw [List.length_map]; exact hl) (Z3n hin) hv]
 simp only [Option.bind_some]
 have hpv:=Zs9 (l.map hfrm) (kp false (st s)).2 (kp false (st s)).1 hv
 have hpl:(partsR (kp false (st s)).2 (kp false (st s)).1 (l.map hfrm)).1.length=l.length:=by rw [Zq3,List.length_map]
 generalize hr:partsR (kp false (st s)).2 (kp false (st s)).1 (l.map hfrm)=r at hpv hpl
 have hzl:(l.zip r.1).length=l.length:=by rw [List.length_zip,hpl,Nat.min_self]
 have:=Zch (L:=fun n (s:ISt) i=>Zb0 l (r.1,r.2.1,le r.2.2) n (le s.1) s.2 i) (l.zip r.1) (fun s _ x=>hstepI s x.1 x.2) (fun s=>(le s.1,s.2)) (fun _ s=>ISok s) (by omega) (fun n s i hi hs=>by
  show Zb0 l (r.1,r.2.1,le r.2.2) (n + 1) (le s.1) s.2 (i:Int)=_∧_
  have hil:i<l.length:=by omega
  have hir:i<r.1.length:=by omega
  have hz:(l.zip r.1)[i]=(l[i],r.1[i]):=List.getElem_zip
  rw [hz]
  refine⟨?_,Zwm hs _ _⟩
  have hpx:=hpv.1 _ (List.getElem_mem hir)
  rw [Zb0]
  simp only [show ((i:Int)<(r.1.length:Int)) from by omega,decide_true,if_true,Z5 hil,Z5 hir,Option.bind_some,Zif,wsucc (by omega:i<1000000000001)]
  unfold hstepI
  by_cases h:vH l[i]=true
  ·rw [if_pos h,if_pos h,Z1b (hin _ (List.getElem_mem hil)) h hpx]
   simp only [Option.bind_some]
   rw [lU_eq hs.vs.inL (Z3l _ _ _).1.inL]
   rfl
  ·rw [if_neg h,if_neg h]
   rfl) (fun n s hs=>by
  show Zb0 l (r.1,r.2.1,le r.2.2) (n + 1) (le s.1) s.2 ((l.zip r.1).length:Int)=_
  rw [Zb0,if_neg (by rw [hzl]; simp; omega)]) (r.2.2,[]) ⟨VS.nil,fun _=>rfl⟩
 have h1:=this.1
 simp only at h1
 have hz:∀(l:List Zh) (ps:List (List Bx)) (s:ISt) (i:Nat),l.length=ps.length→foldI (fun s _ (x:Zh × List Bx)=>hstepI s x.1 x.2) s i (l.zip ps)=imgH s l ps:=by
  intro l
  induction l with
  | nil=>intro ps s i h; cases ps with
   | nil=>rfl
   | cons _ _=>simp at h
  | cons m l ih=>intro ps s i h; cases ps with
   | nil=>simp at h
   | cons p ps=>simp only [List.zip_cons_cons,foldI,imgH]; exact ih ps _ _ (by simpa using h)
 rw [h1,hz l r.1 _ _ hpl.symm]
 have hok:=Zzw l r.1 (r.2.2,[]) ⟨VS.nil,fun _=>rfl⟩
 simp only [Option.bind_some]
 rw [lU_eq hok.vs.inL hpv.2.inL]
 simp only [Option.bind_some]
 rw [Zwg (uU_vs _ _ _).1.inL.len]
 rfl
structure CutAll (Cs:List (List Int)) (l:List Zh) (s:List Bx):Prop where
 ends:endsIn Cs tops5
 size:prodL Cs≤2000000000
 set:CutB Cs (s.filter vB)
 mat:∀ h∈l,vH h=true→cutIn Cs (toL h.Match)
 tgt:∀ h∈l,vH h=true→∀ b,cutIn Cs (toL b)→cutIn Cs (toL (tgt h b))
theorem Z1c {Cs:List (List Int)} {l:List Zh} {s:List Bx} (hC:CutAll Cs l s) {h:Zh} (hm:h∈l) (hv:vH h=true) {p:List Bx} (hp:CutB Cs p):(hidG h p).length≤2000000000:=by
 have:CutB Cs (p.map (AM.tgt h)):=fun x hx=>by
  obtain⟨y,hy,rfl⟩:=List.mem_map.1 hx
  exact hC.tgt h hm hv y (hp y hy)
 exact Nat.le_trans (CutB.size (Zvq h p) (CutB.can hC.ends this (CutB.nil _) (Zc8 _ _ _))) hC.size
structure HOk (Cs:List (List Int)) (s:HSt):Prop where
 r:VS s.2.1
 o:VS s.2.2
 c:CutB Cs s.2.1
theorem Zyj {Cs:List (List Int)} {l:List Zh} {s0:List Bx} (hC:CutAll Cs l s0) {s:HSt} (h:HOk Cs s) {m:Zh} (hm:m∈l):HOk Cs (hstep s m):=by
 unfold hstep
 split
 ·rename_i hv
  exact⟨(uS_vs _ _ _).1,(uU_vs _ _ _).1,CutB.kp (CutB.cmb hC.ends (CutB.filter h.c) (CutB.filter (CutB.one (hC.mat m hm hv))))⟩
 ·exact h
theorem Zyk {Cs:List (List Int)} {l0:List Zh} {s0:List Bx} (hC:CutAll Cs l0 s0):∀(l:List Zh) (s:HSt),(∀ m∈l,m∈l0)→HOk Cs s→HOk Cs (l.foldl hstep s)
 | [],_,_,h=>h
 | m :: l,s,hl,h=>by rw [List.foldl_cons]; exact Zyk hC l _ (fun x hx=>hl x (List.mem_cons_of_mem _ hx)) (Zyj hC h (hl m (List.mem_cons_self ..)))
theorem Zwy {Cs:List (List Int)} {l:List Zh} (hl:l.length≤100000) (hin:∀ h∈l,HIn h) {s:List Bx} (hs:InL s) (hC:CutAll Cs l s):Zf2 l s=some (himgA l s):=by
 unfold Zf2 himgA
 rw [Zyb hs]
 simp only [Option.bind_some]
 have hv:VS (kp false (st s)).1:=(kp_vs (st_ok s).1).1
 have hcut:CutB Cs (kp false (st s)).1:=CutB.kp (CutB.st hC.ends hC.set)
 have:=Zch (L:=fun n (s:HSt) i=>Zb1 l n ⟨s.1⟩ s.2.1 s.2.2 i) l (fun s _ m=>hstep s m) (fun s=>(⟨s.1⟩,s.2.1,s.2.2)) (fun _ s=>HOk Cs s) (by omega) (fun n s i hi hs=>by
  show Zb1 l (n + 1) ⟨s.1⟩ s.2.1 s.2.2 (i:Int)=_∧_
  have hm:=List.getElem_mem hi
  have hb:=hin _ hm
  refine⟨?_,Zyj hC hs hm⟩
  rw [Zb1]
  simp only [show ((i:Int)<(l.length:Int)) from by omega,decide_true,if_true,Z5 hi,Option.bind_some,Zim,wsucc (by omega:i<1000000000001)]
  unfold hstep
  by_cases h:vH l[i]=true
  ·rw [if_pos h,h]
   simp only [Bool.not_true,Bool.false_eq_true,if_false]
   rw [fI_eq hs.r.inL (InL.one hb.m)]
   simp only [Option.bind_some]
   rw [fS_eq hs.r.inL (InL.one hb.m)]
   simp only [Option.bind_some]
   rw [show uI s.1 s.2.1 [(l[i]).Match]=hP s l[i] from rfl,show uS (hP s l[i]).2 s.2.1 [(l[i]).Match]=hQ s l[i] from rfl]
   have hPv:VS (hP s l[i]).1:=(uI_vs _ _ _).1
   have hPl:=hPv.len
   have hPc:CutB Cs (hP s l[i]).1:=CutB.kp (CutB.cmb hC.ends (CutB.filter hs.c) (CutB.filter (CutB.one (hC.mat _ hm h))))
   have h2:=Zch (L:=Zc6 l (i:Int) ((hP s l[i]).1,⟨(hP s l[i]).2⟩)) (hP s l[i]).1 (fun acc _ x=>acc++[tgt l[i] x]) id (fun j acc=>acc.length≤j) (by omega) (fun n acc j hj ha=>by
    rw [Zc6]
    simp only [show ((j:Int)<((hP s l[i]).1.length:Int)) from by omega,decide_true,if_true,Z5 hi,Z5 hj,Option.bind_some,Zwj,wsucc (by omega:j<1000000000001),List.length_singleton]
    rw [if_pos (show acc.length + 1≤lim by unfold lim; omega)]
    exact⟨rfl,by simp; omega⟩) (fun n acc ha=>by rw [Zc6]; simp) [] (Nat.le_refl _)
   rw [h2.1,Zih]
   simp only [id,List.nil_append,Option.bind_some]
   rw [Zwk (by rw [List.length_map]; omega) (fun x hx=>by
    obtain⟨y,hy,rfl⟩:=List.mem_map.1 hx
    exact tgt_ok hb h (hPv.ok y hy)) (Z1c hC hm h hPc)]
   simp only [Option.bind_some]
   rw [show can oO ((hP s l[i]).1.map (tgt l[i])) []=hidG l[i] (hP s l[i]).1 from rfl]
   have hHd:hH s l[i]=hidA (hQ s l[i]).2 l[i] (hP s l[i]).1:=rfl
   have hUd:hU s l[i]=uU (hH s l[i]).2 s.2.2 (hH s l[i]).1:=rfl
   unfold hidA at hHd
   by_cases hq:(hQ s l[i]).2=true∨¬ (hidG l[i] (hP s l[i]).1).length≤4096
   ·rw [if_pos hq] at hHd
    have hb2:((hQ s l[i]).2 || decide (((hidG l[i] (hP s l[i]).1).length:Int) > 4096))=true:=by
     rw [Bool.or_eq_true,decide_eq_true_eq]
     exact hq.imp id fun h=>by omega
    rw [hb2,hUd,hHd]
    simp [Zv,uU,kp]
   ·rw [if_neg hq] at hHd
    have hq1:(hQ s l[i]).2=false:=by
     cases h3:(hQ s l[i]).2 with
     | false=>rfl
     | true=>exact absurd (Or.inl h3) hq
    have hq2:(hidG l[i] (hP s l[i]).1).length≤4096:=Classical.byContradiction fun h=>hq (Or.inr h)
    have hb2:((hQ s l[i]).2 || decide (((hidG l[i] (hP s l[i]).1).length:Int) > 4096))=false:=by
     rw [hq1,Bool.false_or,decide_eq_false]; omega
    rw [hb2,fU_eq hs.o.inL (VS.of (Zvq _ _) hq2).inL]
    rw [hUd,hHd]
    rfl
  ·rw [if_neg h]
   rw [Bool.not_eq_true] at h
   rw [h]
   rfl) (fun n s hs=>by
  show Zb1 l (n + 1) ⟨s.1⟩ s.2.1 s.2.2 (l.length:Int)=_
  rw [Zb1]; simp) ((kp false (st s)).2,(kp false (st s)).1,[]) ⟨hv,VS.nil,hcut⟩
 have h1:=this.1
 simp only at h1
 rw [h1,Zml hstep]
 have hok:=Zyk hC l ((kp false (st s)).2,(kp false (st s)).1,[]) (fun m hm=>hm) ⟨hv,VS.nil,hcut⟩
 simp only [Option.bind_some]
 rw [fU_eq hok.o.inL hok.r.inL]
 simp only [Option.bind_some]
 rw [Zup]
 rfl
end Go.AM
set_option maxRecDepth 100000
namespace Go.AM
open Go
noncomputable def pA (to:List Bx) (s:HSt) (h:Zh):=uI s.1 to [tgt h full]
noncomputable def pB (to:List Bx) (s:HSt) (h:Zh):=uF (pA to s h).2 (pA to s h).1 0
noncomputable def pC (to:List Bx) (s:HSt) (h:Zh):=uF (pB to s h).2 (pB to s h).1 3
noncomputable def pD (to:List Bx) (s:HSt) (h:Zh):=uI (pC to s h).2 (pC to s h).1 [h.Match]
noncomputable def pE (to:List Bx) (s:HSt) (h:Zh):=uI (pD to s h).2 (pD to s h).1 s.2.2
noncomputable def pO (to:List Bx) (s:HSt) (h:Zh):=uU (pE to s h).2 s.2.1 (pE to s h).1
noncomputable def pR (to:List Bx) (s:HSt) (h:Zh):=uS (pO to s h).2 s.2.2 [h.Match]
noncomputable def pstep (to:List Bx) (s:HSt) (h:Zh):HSt:=if vH h=true then ((pR to s h).2,(pO to s h).1,(pR to s h).1) else s
structure POk (s:HSt):Prop where
 o:VS s.2.1
 r:VS s.2.2
theorem Ztc {to:List Bx} {s:HSt} (h:POk s) (m:Zh):POk (pstep to s m):=by
 unfold pstep
 split
 ·exact⟨(uU_vs _ _ _).1,(uS_vs _ _ _).1⟩
 ·exact h
theorem Ztd (to:List Bx):∀(l:List Zh) (s:HSt),POk s→POk (l.foldl (pstep to) s)
 | [],_,h=>h
 | m :: l,s,h=>by rw [List.foldl_cons]; exact Ztd to l _ (Ztc h m)
noncomputable def hpreA (l:List Zh) (s:List Bx):List Bx × Int:=
 let o:=l.foldl (pstep (kp false (st s)).1) ((kp false (st s)).2,[],[full])
 let w:=uI o.1 o.2.2 (kp false (st s)).1
 resA ((uU w.2 o.2.1 w.1).2,(uU w.2 o.2.1 w.1).1)
theorem Zuu {l:List Zh} (hl:l.length≤100000) (hin:∀ h∈l,HIn h) {s:List Bx} (hs:InL s):Zez l s=some (hpreA l s):=by
 unfold Zez hpreA
 rw [Zzr hs,Zyc]
 simp only [Option.bind_some]
 have hv:VS (kp false (st s)).1:=(kp_vs (st_ok s).1).1
 generalize kp false (st s)=t at hv ⊢
 have:=Zch (L:=fun n (s:HSt) i=>Zbe l (t.1,le t.2) n (le s.1) s.2.1 s.2.2 i) l (fun s _ m=>pstep t.1 s m) (fun s=>(le s.1,s.2.1,s.2.2)) (fun _ s=>POk s) (by omega) (fun n s i hi hs=>by
  show Zbe l (t.1,le t.2) (n + 1) (le s.1) s.2.1 s.2.2 (i:Int)=_∧_
  have hb:=hin _ (List.getElem_mem hi)
  refine⟨?_,Ztc hs _⟩
  rw [Zbe]
  simp only [show ((i:Int)<(l.length:Int)) from by omega,decide_true,if_true,Z5 hi,Option.bind_some,Zif,wsucc (by omega:i<1000000000001)]
  unfold pstep
  by_cases h:vH l[i]=true
  ·rw [if_pos h,h]
   simp only [Bool.not_true,Bool.false_eq_true,if_false,Zyc,Option.bind_some]
   have hT:BIn (tgt l[i] full):=(tgt_ok hb h Zoi).bin
   rw [show ({ ({ full with x0:=(Zb.mk (l[i]).Addr (l[i]).Addr) }:(Arr5 Zb)) with x3:=(l[i]).Ports }:(Arr5 Zb))=tgt l[i] full from rfl]
   rw [lI_eq hv.inL (InL.one hT)]
   simp only [Option.bind_some]
   have q1:VS (uI s.1 t.1 [tgt l[i] full]).1:=(uI_vs _ _ _).1
   have f0:=fun(e:Bool) (a:List Bx) (ha:InL a)=>lF_eq (e:=e) ha (f:=0) (by omega)
   have f3:=fun(e:Bool) (a:List Bx) (ha:InL a)=>lF_eq (e:=e) ha (f:=3) (by omega)
   rw [show ((0:Nat):Int)=0 from rfl] at f0
   rw [show ((3:Nat):Int)=3 from rfl] at f3
   rw [f0 _ _ q1.inL]
   simp only [Option.bind_some]
   rw [f3 _ _ (uF_vs _ _ _).1.inL]
   simp only [Option.bind_some]
   rw [lI_eq (uF_vs _ _ _).1.inL (InL.one hb.m)]
   simp only [Option.bind_some]
   rw [lI_eq (uI_vs _ _ _).1.inL hs.r.inL]
   simp only [Option.bind_some]
   rw [lU_eq hs.o.inL (uI_vs _ _ _).1.inL]
   simp only [Option.bind_some]
   rw [lS_eq hs.r.inL (InL.one hb.m)]
   rfl
  ·rw [if_neg h]
   rw [Bool.not_eq_true] at h
   rw [h]
   rfl) (fun n s hs=>by
  show Zbe l (t.1,le t.2) (n + 1) (le s.1) s.2.1 s.2.2 (l.length:Int)=_
  rw [Zbe]; simp) (t.2,[],[full]) ⟨VS.nil,VS.full⟩
 have h1:=this.1
 simp only at h1
 rw [h1,Zml (pstep t.1)]
 have hok:=Ztd t.1 l (t.2,[],[full]) ⟨VS.nil,VS.full⟩
 simp only [Option.bind_some]
 rw [lI_eq hok.r.inL hv.inL]
 simp only [Option.bind_some]
 rw [lU_eq hok.o.inL (uI_vs _ _ _).1.inL]
 simp only [Option.bind_some]
 rw [Zwg (uU_vs _ _ _).1.inL.len]
 rfl
theorem Zzx:∀(Cs:List (List Int)) (ts:List Int) (b:RL) (k:Nat) (t:Int),endsIn Cs ts→cutIn Cs b→ts[k]? = some t→cutIn Cs (b.set k ⟨0,t⟩)
 | C :: Cs,t' :: ts,r :: b,0,t,he,hb,hk=>by
  simp only [List.getElem?_cons_zero,Option.some.injEq] at hk
  subst hk
  exact⟨he.1,he.2.1,hb.2.2⟩
 | C :: Cs,t' :: ts,r :: b,k + 1,t,he,hb,hk=>⟨hb.1,hb.2.1,Zzx Cs ts b k t he.2.2 hb.2.2 (by simpa using hk)⟩
 | [],[],[],_,_,_,_,hk=>by simp at hk
 | [],_ :: _,_,_,_,he,_,_=>he.elim
 | _ :: _,[],_,_,_,he,_,_=>he.elim
 | _ :: _,_ :: _,[],_,_,_,hb,_=>hb.elim
 | [],[],_ :: _,_,_,_,hb,_=>hb.elim
theorem Z1d {f:Nat} (hf:f<5) (b:Bx):toL (freeB f b)=(toL b).set f ⟨0,topOf (f:Int)⟩∧tops5[f]? = some (topOf (f:Int)):=by
 rcases fiveN hf with rfl | rfl | rfl | rfl | rfl <;> exact⟨rfl,rfl⟩
theorem CutB.free {Cs:List (List Int)} (he:endsIn Cs tops5) {a:List Bx} (ha:CutB Cs a) {f:Nat} (hf:f<5):CutB Cs (a.map (freeB f)):=fun x hx=>by
 obtain⟨y,hy,rfl⟩:=List.mem_map.1 hx
 obtain⟨e1,e2⟩:=Z1d hf y
 rw [e1]
 exact Zzx Cs tops5 (toL y) f _ he (ha y hy) e2
theorem CutB.freeA {Cs:List (List Int)} (he:endsIn Cs tops5) {a:List Bx} (ha:CutB Cs a) {f:Nat} (hf:f<5):CutB Cs (freeA a f).1:=by
 unfold AM.freeA
 split
 ·exact CutB.nil Cs
 ·unfold capB
  split
  ·exact CutB.can he (CutB.free he (CutB.st he (CutB.filter ha)) hf) (CutB.nil _) (Zc8 _ _ _)
  ·exact CutB.nil Cs
theorem Zwo {Cs:List (List Int)} {l:List Zh} {s:List Bx} (hC:CutAll Cs l s) {a:List Bx} (ha:CutB Cs a) {f:Nat} (hf:f<5):(can oO ((st a).1.map (freeB f)) []).length≤2000000000:=
 Nat.le_trans (CutB.size (Zc8 _ _ _).cf (CutB.can hC.ends (CutB.free hC.ends (CutB.st hC.ends (CutB.filter ha)) hf) (CutB.nil _) (Zc8 _ _ _))) hC.size
theorem Zyl:∀(Cs:List (List Int)) (ts:List Int),endsIn Cs ts→cutIn Cs (ts.map fun t=>⟨0,t⟩)
 | [],[],_=>trivial
 | C :: Cs,t :: ts,h=>⟨h.1,h.2.1,Zyl Cs ts h.2.2⟩
 | [],_ :: _,h=>h.elim
 | _ :: _,[],h=>h.elim
theorem Z2p {Cs:List (List Int)} (he:endsIn Cs tops5):cutIn Cs (toL full):=Zyl Cs tops5 he
theorem fF0 {Cs:List (List Int)} {l:List Zh} {s0:List Bx} (hC:CutAll Cs l s0) {e:Bool} {a:List Bx} (ha:VS a) (hc:CutB Cs a):Zb6 ⟨e⟩ a 0=some ((uF e a 0).1,⟨(uF e a 0).2⟩):=fF_eq (f:=0) ha.inL (by omega) (Zwo hC hc (by omega))
theorem fF3 {Cs:List (List Int)} {l:List Zh} {s0:List Bx} (hC:CutAll Cs l s0) {e:Bool} {a:List Bx} (ha:VS a) (hc:CutB Cs a):Zb6 ⟨e⟩ a 3=some ((uF e a 3).1,⟨(uF e a 3).2⟩):=fF_eq (f:=3) ha.inL (by omega) (Zwo hC hc (by omega))
theorem bindS {α β:Type} {x:Option α} {a:α} (h:x=some a) (f:α→Option β):x.bind f=f a:=by rw [h]; rfl
theorem Z1e {Cs:List (List Int)} {l:List Zh} (hin:∀ h∈l,HIn h) {s0:List Bx} (hC:CutAll Cs l s0) {t:List Bx × Bool} (hv:VS t.1) (hcut:CutB Cs t.1) (n:Nat) (s:HSt) (i:Nat) (hi:i<l.length) (hl:l.length≤100000) (hs:POk s) :
  Zaz l (t.1,⟨t.2⟩) (n + 1) ⟨s.1⟩ s.2.2 s.2.1 (i:Int)=Zaz l (t.1,⟨t.2⟩) n ⟨(pstep t.1 s l[i]).1⟩ (pstep t.1 s l[i]).2.2 (pstep t.1 s l[i]).2.1 ((i + 1:Nat):Int):=by
 have hm:=List.getElem_mem hi
 have hb:=hin _ hm
 rw [Zaz,if_pos (by simp; omega),bindS (Z5 hi),bindS (Zim _),wsucc (by omega)]
 by_cases h:vH l[i]=true
 ·have e:pstep t.1 s l[i]=((pR t.1 s l[i]).2,(pO t.1 s l[i]).1,(pR t.1 s l[i]).1):=by unfold pstep; rw [if_pos h]
  rw [e,h,if_neg (by simp),bindS (Z5 hi),bindS Zoh,bindS (Zwj _ _)]
  have hT:BIn (tgt l[i] full):=(tgt_ok hb h Zoi).bin
  have hTc:cutIn Cs (toL (tgt l[i] full)):=hC.tgt _ hm h full (Z2p hC.ends)
  have e1:Zv ⟨s.1⟩ 1 t.1 [tgt l[i] full]=some ((pA t.1 s l[i]).1,⟨(pA t.1 s l[i]).2⟩):=fI_eq hv.inL (InL.one hT)
  have c1:CutB Cs (pA t.1 s l[i]).1:=CutB.kp (CutB.cmb hC.ends (CutB.filter hcut) (CutB.filter (CutB.one hTc)))
  have v1:VS (pA t.1 s l[i]).1:=(uI_vs _ _ _).1
  have e2:Zb6 ⟨(pA t.1 s l[i]).2⟩ (pA t.1 s l[i]).1 0=some ((pB t.1 s l[i]).1,⟨(pB t.1 s l[i]).2⟩):=fF0 hC v1 c1
  have c2:CutB Cs (pB t.1 s l[i]).1:=CutB.kp (CutB.freeA hC.ends c1 (by omega))
  have v2:VS (pB t.1 s l[i]).1:=(uF_vs _ _ _).1
  have e3:Zb6 ⟨(pB t.1 s l[i]).2⟩ (pB t.1 s l[i]).1 3=some ((pC t.1 s l[i]).1,⟨(pC t.1 s l[i]).2⟩):=fF3 hC v2 c2
  have v3:VS (pC t.1 s l[i]).1:=(uF_vs _ _ _).1
  have e4:Zv ⟨(pC t.1 s l[i]).2⟩ 1 (pC t.1 s l[i]).1 [(l[i]).Match]=some ((pD t.1 s l[i]).1,⟨(pD t.1 s l[i]).2⟩):=fI_eq v3.inL (InL.one hb.m)
  have v4:VS (pD t.1 s l[i]).1:=(uI_vs _ _ _).1
  have e5:Zv ⟨(pD t.1 s l[i]).2⟩ 1 (pD t.1 s l[i]).1 s.2.2=some ((pE t.1 s l[i]).1,⟨(pE t.1 s l[i]).2⟩):=fI_eq v4.inL hs.r.inL
  have v5:VS (pE t.1 s l[i]).1:=(uI_vs _ _ _).1
  have e6:Zv ⟨(pE t.1 s l[i]).2⟩ 0 s.2.1 (pE t.1 s l[i]).1=some ((pO t.1 s l[i]).1,⟨(pO t.1 s l[i]).2⟩):=fU_eq hs.o.inL v5.inL
  have e7:Zv ⟨(pO t.1 s l[i]).2⟩ 2 s.2.2 [(l[i]).Match]=some ((pR t.1 s l[i]).1,⟨(pR t.1 s l[i]).2⟩):=fS_eq hs.r.inL (InL.one hb.m)
  rw [bindS e1,bindS e2,bindS e3,bindS (Z5 hi),bindS e4,bindS e5,bindS e6,bindS (Z5 hi),bindS e7]
  rfl
 ·have e:pstep t.1 s l[i]=s:=by unfold pstep; rw [if_neg h]
  rw [e]
  rw [Bool.not_eq_true] at h
  rw [h,if_pos (by simp)]
  rfl
theorem Zte {Cs:List (List Int)} {l:List Zh} (hl:l.length≤100000) (hin:∀ h∈l,HIn h) {s:List Bx} (hs:InL s) (hC:CutAll Cs l s):Ze0 l s=some (hpreA l s):=by
 unfold Ze0 hpreA
 rw [Zyb hs,Zoh]
 simp only [Option.bind_some]
 have hv:VS (kp false (st s)).1:=(kp_vs (st_ok s).1).1
 have hcut:CutB Cs (kp false (st s)).1:=CutB.kp (CutB.st hC.ends hC.set)
 generalize kp false (st s)=t at hv hcut ⊢
 have:=Zch (L:=fun n (s:HSt) i=>Zaz l (t.1,⟨t.2⟩) n ⟨s.1⟩ s.2.2 s.2.1 i) l (fun s _ m=>pstep t.1 s m) (fun s=>(⟨s.1⟩,s.2.2,s.2.1)) (fun _ s=>POk s) (by omega) (fun n s i hi hs=>⟨Z1e hin hC hv hcut n s i hi hl hs,Ztc hs _⟩) (fun n s hs=>by
  show Zaz l (t.1,⟨t.2⟩) (n + 1) ⟨s.1⟩ s.2.2 s.2.1 (l.length:Int)=_
  rw [Zaz]; simp) (t.2,[],[full]) ⟨VS.nil,VS.full⟩
 have h1:=this.1
 simp only at h1
 rw [h1,Zml (pstep t.1)]
 have hok:=Ztd t.1 l (t.2,[],[full]) ⟨VS.nil,VS.full⟩
 simp only [Option.bind_some]
 rw [fI_eq hok.r.inL hv.inL]
 simp only [Option.bind_some]
 rw [fU_eq hok.o.inL (uI_vs _ _ _).1.inL]
 simp only [Option.bind_some]
 rw [Zup]
 rfl
def cutsAt (f:Nat) (a:List Bx):List Int:=a.flatMap fun b=>[(b.get (f:Int)).Lo,(b.get (f:Int)).Hi + 1]
def hcuts (f:Nat) (l:List Zh):List Int:=l.flatMap fun h=>[(h.Match.get (f:Int)).Lo,(h.Match.get (f:Int)).Hi + 1,h.Addr,h.Addr + 1,h.Ports.Lo,h.Ports.Hi + 1]
def place (l:List Zh) (a:List Bx) (f:Nat):List Int:=0 :: (topOf (f:Int) + 1) :: (cutsAt f a++hcuts f l)
def places (l:List Zh) (a:List Bx):List (List Int):=[place l a 0,place l a 1,place l a 2,place l a 3,place l a 4]
theorem Z1f (l:List Zh) (a:List Bx) (f:Nat):(place l a f).length=2 + 2 * a.length + 6 * l.length:=by
 have h1:(cutsAt f a).length=2 * a.length:=by
  induction a with
  | nil=>rfl
  | cons b a ih=>unfold cutsAt at *; rw [List.flatMap_cons,List.length_append,ih]; simp; omega
 have h2:(hcuts f l).length=6 * l.length:=by
  induction l with
  | nil=>rfl
  | cons b l ih=>unfold hcuts at *; rw [List.flatMap_cons,List.length_append,ih]; simp; omega
 unfold place
 rw [List.length_cons,List.length_cons,List.length_append,h1,h2]
 omega
theorem Zg9 {l:List Zh} {a:List Bx} {f:Nat} {b:Bx} (hb:b∈a):(b.get (f:Int)).Lo∈place l a f∧(b.get (f:Int)).Hi + 1∈place l a f:=by
 have h:∀ x,x∈[(b.get (f:Int)).Lo,(b.get (f:Int)).Hi + 1]→x∈place l a f:=fun x hx=>List.mem_cons_of_mem _ (List.mem_cons_of_mem _ (List.mem_append_left _ (List.mem_flatMap.2 ⟨b,hb,hx⟩)))
 exact⟨h _ (by simp),h _ (by simp)⟩
theorem Zuv {l:List Zh} {a:List Bx} {f:Nat} {h:Zh} (hh:h∈l):∀ x,x∈[(h.Match.get (f:Int)).Lo,(h.Match.get (f:Int)).Hi + 1,h.Addr,h.Addr + 1,h.Ports.Lo,h.Ports.Hi + 1]→x∈place l a f:=fun x hx=>
 List.mem_cons_of_mem _ (List.mem_cons_of_mem _ (List.mem_append_right _ (List.mem_flatMap.2 ⟨h,hh,hx⟩)))
theorem Zzy {l:List Zh} {a s:List Bx} (hl:l.length≤4) (ha:a.length≤6) (hs:∀ Cs,endsIn Cs tops5→CutB Cs a→CutB Cs (s.filter vB)):∃ Cs,CutAll Cs l s:=by
 have ends:endsIn (places l a) tops5:=⟨List.mem_cons_self ..,List.mem_cons_of_mem _ (List.mem_cons_self ..),List.mem_cons_self ..,List.mem_cons_of_mem _ (List.mem_cons_self ..),List.mem_cons_self ..,List.mem_cons_of_mem _ (List.mem_cons_self ..),List.mem_cons_self ..,List.mem_cons_of_mem _ (List.mem_cons_self ..),List.mem_cons_self ..,List.mem_cons_of_mem _ (List.mem_cons_self ..),trivial⟩
 have box:∀ b∈a,cutIn (places l a) (toL b):=fun b hb=>
  ⟨(Zg9 (f:=0) hb).1,(Zg9 (f:=0) hb).2,(Zg9 (f:=1) hb).1,(Zg9 (f:=1) hb).2,(Zg9 (f:=2) hb).1,(Zg9 (f:=2) hb).2,(Zg9 (f:=3) hb).1,(Zg9 (f:=3) hb).2,(Zg9 (f:=4) hb).1,(Zg9 (f:=4) hb).2,trivial⟩
 refine⟨places l a,ends,?_,hs _ ends box,fun h hh _=>?_,fun h hh _ b hb=>?_⟩
 ·have e:∀ f,(place l a f).length≤38:=fun f=>by rw [Z1f]; omega
  have m:∀ {x y n:Nat},x≤38→y≤n→x * y≤38 * n:=fun h1 h2=>Nat.mul_le_mul h1 h2
  have:=m (e 0) (m (e 1) (m (e 2) (m (e 3) (m (e 4) (Nat.le_refl 1)))))
  simp only [places,prodL]
  omega
 ·have p:=fun(f:Nat) x (hx:x∈[(h.Match.get (f:Int)).Lo,(h.Match.get (f:Int)).Hi + 1,h.Addr,h.Addr + 1,h.Ports.Lo,h.Ports.Hi + 1])=>Zuv (l:=l) (a:=a) (f:=f) hh x hx
  exact⟨p 0 _ (by simp [toL,Arr5.get]),p 0 _ (by simp [toL,Arr5.get]),p 1 _ (by simp [toL,Arr5.get]),p 1 _ (by simp [toL,Arr5.get]),p 2 _ (by simp [toL,Arr5.get]),p 2 _ (by simp [toL,Arr5.get]),p 3 _ (by simp [toL,Arr5.get]),p 3 _ (by simp [toL,Arr5.get]),p 4 _ (by simp [toL,Arr5.get]),p 4 _ (by simp [toL,Arr5.get]),trivial⟩
 ·have p:=fun(f:Nat) x (hx:x∈[(h.Match.get (f:Int)).Lo,(h.Match.get (f:Int)).Hi + 1,h.Addr,h.Addr + 1,h.Ports.Lo,h.Ports.Hi + 1])=>Zuv (l:=l) (a:=a) (f:=f) hh x hx
  obtain⟨b0,b1,c0,c1,d0,d1,e0,e1,f0,f1,_⟩:=hb
  exact⟨p 0 _ (by simp [tgt]),p 0 _ (by simp [tgt]),c0,c1,d0,d1,p 3 _ (by simp [tgt]),p 3 _ (by simp [tgt]),f0,f1,trivial⟩
theorem Zzz {l:List Zh} {s:List Bx} (hl:l.length≤4) (ha:s.length≤6):∃ Cs,CutAll Cs l s:=Zzy hl ha fun _ _ h=>CutB.filter h
theorem Z2q {l:List Zh} {a:List Bx} (hl:l.length≤4) (ha:a.length≤6):∃ Cs,CutAll Cs l (mk a).1:=Zzy hl ha fun _ he h=>CutB.filter (CutB.mkF he _ _ (CutB.nil _) (CutB.filter h))
end Go.AM
set_option maxRecDepth 100000
namespace Go.AM
open Go
structure GOk (s:HSt):Prop where
 r:VS s.2.1
 o:VS s.2.2
theorem Z3o (l:List Zh) (s:List Bx):SetOr (himgA l s):=Zzv ⟨(uU_vs _ _ _).1,(uU_vs _ _ _).2⟩
theorem Z3p (l:List Zh) (s:List Bx):SetOr (hpreA l s):=Zzv ⟨(uU_vs _ _ _).1,(uU_vs _ _ _).2⟩
end Go.AM
set_option maxRecDepth 100000
namespace Go.AM
open Go
end Go.AM
set_option maxRecDepth 100000
namespace Go.AM
open Go
end Go.AM
set_option maxRecDepth 100000
namespace Go.AM
open Go
theorem Zym {a b:List Bx} (ha:a.length≤1000000000000):Zhc a b=some (decide (a=b)):=by
 unfold Zhc; rw [Zvk ha]; rfl
end Go.AM
set_option maxRecDepth 100000
namespace Go.AM
open Go
theorem Z3q {x:Int} (h0:0≤x) (h1:x≤4294967295):RIn ⟨x,x⟩:=⟨h0,by show x<_; omega,h0,by show x<_; omega⟩
theorem Z3r {t:Zf} (ht:TOk t):Ok (Zgg t) fun r=>HIn r.1∧TOk r.2:=by
 unfold Zgg
 rw [Zoh]
 refine Ok.lift ?_
 refine Ok.bind (Zdt ht 2 (by omega) (by omega)) fun r3 ⟨⟨a0,a1⟩,h3⟩=>?_
 refine Ok.bind (Ok.idx (p:=fun x=>0≤x∧x≤4294967295) a0 (by simpa using a1) fun x hx=>?_) fun x5 hx5=>?_
 ·simp only [List.mem_cons,List.not_mem_nil,or_false] at hx
  omega
 refine Ok.bind (Zsz h3 (top:=65535) (by omega) (by omega)) fun r7 ⟨q1,q2⟩=>Ok.bind (Zmk q2) fun r9 ⟨q3,q4⟩=>?_
 have fb:=Zoi.bin
 refine Ok.bind (p:=fun o=>TOk o.1∧HIn o.2) ?_ fun o ⟨o1,o2⟩=>?_
 ·refine Ok.bind (Zdt q4 2 (by omega) (by omega)) fun r22 ⟨_,h22⟩=>Ok.ite (fun _=>?_) fun _=>?_
  ·refine Ok.bind (Zdt h22 3 (by omega) (by omega)) fun r24 ⟨⟨c0,c1⟩,h24⟩=>Ok.bind (Ok.idx (p:=fun x=>0≤x∧x≤4294967295) c0 (by simpa using c1) fun x hx=>?_) fun x26 hx=>Ok.ret ⟨h24,⟨q3.rin (by omega),fb.h1,Z3q hx.1 hx.2,fb.h3,fb.h4⟩,hx5.1,hx5.2,q1.rin (by omega)⟩
   simp only [List.mem_cons,List.not_mem_nil,or_false] at hx
   omega
  ·exact Ok.ret ⟨h22,⟨q3.rin (by omega),fb.h1,fb.h2,fb.h3,fb.h4⟩,hx5.1,hx5.2,q1.rin (by omega)⟩
 ·obtain⟨p1,p2⟩:=o
  exact Ok.ret ⟨o2,o1⟩
theorem Zsa (wild:Bool):∀(n:Nat) (t:Zf) (l:List Zh) (i:Int),TOk t→(∀ x∈l,HIn x)→i≤n→0≤i→i<100→(l.length:Int) + i<1000 →
  Ok (Zcg wild (n + 1) t l i) fun r=>TOk r.1∧(∀ x∈r.2,HIn x)∧(r.2.length:Int)=l.length + i
 | 0,t,l,i,ht,hl,hi,h0,h9,hlen=>by
  rw [Zcg]
  exact Ok.ite (fun hc=>absurd (of_decide_eq_true hc) (by omega)) fun _=>Ok.ret ⟨ht,hl,by show (l.length:Int)=_; omega⟩
 | n + 1,t,l,i,ht,hl,hi,h0,h9,hlen=>by
  rw [Zcg]
  refine Ok.ite (fun hc=>?_) fun hc=>Ok.ret ⟨ht,hl,by simp at hc; show (l.length:Int)=_; omega⟩
  have hc:=of_decide_eq_true hc
  refine Ok.bind (p:=fun r=>TOk r.1∧(∀ x∈r.2,HIn x)∧r.2.length=l.length + 1) ?_ fun r ⟨h1,h2,h3⟩=>?_
  ·refine Ok.bind (Z3r ht) fun q ⟨g1,g2⟩=>?_
   refine Ok.bind (p:=fun o=>TOk o.1∧HIn o.2) ?_ fun o ⟨k1,k2⟩=>?_
   ·refine Ok.lift ?_
    refine Ok.bind (p:=fun v=>TOk v.2) ?_ fun v k1=>?_
    ·refine Ok.ite (fun hw=>?_) fun _=>Ok.ret g2
     exact Ok.bind (Zdt g2 6 (by omega) (by omega)) fun r190 ⟨_,h6⟩=>Ok.ret h6
    ·refine Ok.ite (fun hv=>?_) fun _=>Ok.ret ⟨k1,g1⟩
     exact Ok.bind (Zr1 k1 g1.m) fun r196 ⟨m1,m2⟩=>Ok.ret ⟨m2,m1,g1.a0,g1.a1,g1.p⟩
   ·obtain⟨o1,o2⟩:=o
    refine Ok.bind (p:=fun o=>TOk o.1∧HIn o.2) ?_ fun o ⟨k1,k2⟩=>?_
    ·refine Ok.lift ?_
     refine Ok.bind (p:=fun v=>TOk v.2) ?_ fun v k3=>?_
     ·refine Ok.ite (fun hw=>?_) fun _=>Ok.ret k1
      exact Ok.bind (Zdt k1 6 (by omega) (by omega)) fun r190 ⟨_,h6⟩=>Ok.ret h6
     ·have w:=Zjg (o2.Ports.Hi + 65536)
      exact Ok.ite (fun hv=>Ok.ret ⟨k3,k2.m,k2.a0,k2.a1,⟨k2.p.h0,k2.p.h1,w.1,w.2⟩⟩) fun _=>Ok.ret ⟨k3,k2⟩
    ·obtain⟨o1,o2⟩:=o
     refine Ok.chk (by simp only [List.length_singleton]; unfold lim; omega) (Ok.ret ⟨k1,fun x hx=>?_,by simp⟩)
     rcases List.mem_append.1 hx with hx | hx
     ·exact hl x hx
     ·simp only [List.mem_singleton] at hx; subst hx; exact k2
  ·obtain⟨r1,r2⟩:=r
   simp only at h1 h2 h3
   show Ok (Zcg wild (n + 1) r1 r2 (IntKind.wrap .i64 (i - 1))) _
   rw [wi64 (by omega) (by omega)]
   refine(Zsa wild n r1 r2 (i - 1) h1 h2 (by omega) (by omega) (by omega) (by omega)).mono fun v ⟨e1,e2,e3⟩=>⟨e1,e2,?_⟩
   omega
theorem Z2r (wild:Bool) {t:Zf} (ht:TOk t) {n:Int} (h0:0≤n) (h1:n<90):Ok (Zfz t n wild) fun r=>(∀ x∈r.1,HIn x)∧(r.1.length:Int)≤n∧TOk r.2:=by
 unfold Zfz
 rw [wi64 (x:=n + 1) (by omega) (by omega)]
 refine Ok.bind (Zdt ht (n + 1) (by omega) (by omega)) fun r ⟨⟨h2,h3⟩,h4⟩=>?_
 refine Ok.bind (Zsa wild 1180591620717411303423 r.2 [] r.1 h4 (by simp) (by omega) h2 (by omega) (by simp; omega)) fun q ⟨g1,g2,g3⟩=>?_
 obtain⟨q1,q2⟩:=q
 refine Ok.ret ⟨g2,?_,g1⟩
 simp at g3
 show (q2.length:Int)≤n
 omega
theorem Z2s {t:Zf} (ht:TOk t) {n:Int} (h0:0≤n) (h1:n<90):Ok (Zg0 t n) fun r=>VS r.1∧TOk r.2∧∃ a:List Bx,(a.length:Int)≤n∧r.1=(mk a).1:=by
 unfold Zg0
 refine Ok.bind (Zxs false ht h0 h1) fun r1 ⟨g1,g2,g3⟩=>?_
 rw [Zx9 (by omega) (fun x hx=>(g1 x hx).1)]
 exact Ok.lift (Ok.ret ⟨(mkF_ok (r1.1.filter vB) [] VS.nil).1.vs,g3,_,g2,rfl⟩)
def gH (h:Zs) (i:Nat) (m:Zh):Option Int:=if (vH m && cB m.Match h)=true then some (i:Int) else none
def mH (l:List Zh) (h:Zs):Int:=orN (findI (gH h) 0 l)
theorem Zyn {h:Zs} (hh:Zci h) {l:List Zh} (hl:l.length≤1000000000000):Zf1 l h=some (mH l h):=by
 have h1:∀ m:Zh,Zfb m h=some (vH m && cB m.Match h):=fun m=>by
  unfold Zfb
  rw [Zif,Zr4 hh]
  cases vH m <;> rfl
 unfold Zf1 Za9 mH
 rw [Zh1 (L:=Z2 l h) l (gH h) hl (fun n i hi=>by
  rw [Z2]
  simp only [show ((i:Int)<(l.length:Int)) from by omega,decide_true,if_true,Z5 hi,Option.bind_some,h1,wsucc (by omega:i<1000000000001)]
  unfold gH
  cases (vH l[i] && cB l[i].Match h) <;> rfl) (fun n=>by rw [Z2]; simp)]
 cases findI (gH h) 0 l <;> rfl
theorem Zwz {h:Zs} (hh:Zci h) {l:List Zh} (hl:l.length≤1000000000000):Zf3 l h=some (mH l h):=by
 unfold Zf3 mH
 rw [Zh1 (L:=Zc7 l h) l (gH h) hl (fun n i hi=>by
  rw [Zc7]
  simp only [show ((i:Int)<(l.length:Int)) from by omega,decide_true,if_true,Z5 hi,Option.bind_some,Zim,Zqx hh,wsucc (by omega:i<1000000000001)]
  unfold gH
  cases vH l[i] <;> cases cB l[i].Match h <;> rfl) (fun n=>by rw [Zc7]; simp)]
 cases findI (gH h) 0 l <;> rfl
theorem Of_box {h:Zs} (hh:Zci h):Zmd h=some (ofB (hv h)):=by
 unfold Zmd
 rw [Zv8 hh]
 simp only [Option.bind_some]
 rw [Zv6 (L:=Zh2 (hv h)) (f:=fun s k=>Arr5.set s k ⟨(hv h).get k,(hv h).get k⟩) (fin:=id) (fun n s k h0 h1=>by
  rw [Zh2]
  simp only [show k<5 from h1,decide_true,if_true,show 0≤k∧k<5 from ⟨h0,h1⟩,and_self,wnext h0 (by omega:k<1000000)]) (fun n s=>by rw [Zh2]; rfl)]
 rfl
def hdB (m:Zh) (h:Zs):Bx:=if (vH m && cB m.Match h)=true then tgt m (ofB (hv h)) else ofB (hv h)
theorem Z1g {h:Zs} (hh:Zci h) (m:Zh):Zhg m h=some (hdB m h):=by
 unfold Zhg hdB
 rw [Of_box hh,Zif,Zr4 hh]
 cases vH m <;> cases cB m.Match h <;> rfl
theorem Z0i {h:Zs} (hh:Zci h) (m:Zh):Zhh m h=some (hdB m h):=by
 unfold Zhh hdB
 rw [rOf_eq hh,Zim,Zqx hh]
 cases vH m <;> cases cB m.Match h <;> rfl
def gVH (_:Nat) (m:Zh):Option Bool:=if vH m=true then none else some false
theorem Zw0 {l:List Zh} (hl:l.length≤1000000000000):∃ r,Zfo l=some r∧Zfp l=some r:=by
 unfold Zfo Zfp
 rw [Zh1 (L:=Zcu l) l gVH hl (fun n i hi=>by
  rw [Zcu]
  simp only [show ((i:Int)<(l.length:Int)) from by omega,decide_true,if_true,Z5 hi,Option.bind_some,Zif,wsucc (by omega:i<1000000000001)]
  unfold gVH
  cases vH l[i] <;> rfl) (fun n=>by rw [Zcu]; simp),
  Zh1 (L:=Zcv l) l gVH hl (fun n i hi=>by
  rw [Zcv]
  simp only [show ((i:Int)<(l.length:Int)) from by omega,decide_true,if_true,Z5 hi,Option.bind_some,Zim,wsucc (by omega:i<1000000000001)]
  unfold gVH
  cases vH l[i] <;> rfl) (fun n=>by rw [Zcv]; simp)]
 cases findI gVH 0 l with
 | none=>exact⟨_,rfl,rfl⟩
 | some r=>exact⟨r,rfl,rfl⟩
theorem Zo6 {Cs:List (List Int)} {l:List Zh} (hl:l.length≤100000) (hin:∀ m∈l,HIn m) {s:List Bx} (hs:InL s) (hC:CutAll Cs l s) {h:Zs} (hh:Zci h):Zfq l s h=some true:=by
 unfold Zfq
 have h1:=(Z3o l s).vs.len
 have h2:=(Z3p l s).vs.len
 rw [bindS (Zyi hl hin hs),bindS (Zwy hl hin hs hC),bindS (Zuu hl hin hs),bindS (Zte hl hin hs hC)]
 have hL:Zdj l h fuel 0=some (.inl ()):=by
  rw [Zh1 (L:=Zdj l h) l (fun _ _=>(none:Option Bool)) (by omega) (fun n i hi=>by
   rw [Zdj,if_pos (decide_eq_true (by omega)),bindS (Z5 hi),bindS (Z1g hh _),bindS (Z5 hi),bindS (Z0i hh _),eq_bx,if_neg (by simp),wsucc (by omega)]) (fun n=>by rw [Zdj]; simp),Zwi]
  rfl
 rw [bindS hL]
 obtain⟨r,v1,v2⟩:=Zw0 (l:=l) (by omega)
 simp only [Zym (show (himgA l s).1.length≤1000000000000 by omega),Zym (show (hpreA l s).1.length≤1000000000000 by omega),decide_true,Option.bind_some,beq_self_eq_true,Bool.and_self,if_true,v1,v2,Zyn hh (show l.length≤1000000000000 by omega),Zwz hh (show l.length≤1000000000000 by omega)]
theorem Z3s {h:Zh} (hh:Zne h):HIn h:=by
 obtain⟨h1,h2,h3,_⟩:=hh
 unfold Ziy at h2
 obtain⟨p1,p2,_⟩:=h3
 unfold Ziy at p1 p2
 exact⟨Z0u h1,by omega,by omega,⟨by omega,by omega,by omega,by omega⟩⟩
theorem Zrv {t:List Int} {l:List Zh} {s:List Bx} {h:Zs} (ht:Zsj t) (hl:Zpd l) (hs:Zls s) (hh:Zci h):Zgc t l s h=some true:=by
 have hsane:Zlb=some true:=rfl
 unfold Zgc
 obtain⟨t0,e0,h0⟩:=New_ok (Z23 ht)
 rw [e0]
 have key:∀(s:Zf),TOk s→Ok (Zbt fuel s 0) fun o=>∃ v,o=.inl v:=fun s hs=>by
  refine Z1s (L:=Zbt) 3 (fun _ s=>TOk s) (by omega) (fun n s i hi e1 kk=>?_) (fun n s h=>?_) s hs
  ·rw [Zbt,if_pos (by simp; omega)]
   refine Ok.bind (Z2r true e1 (by omega) (by omega)) fun r68 ⟨m1,m2,m3⟩=>?_
   refine Ok.bind (Z2s m3 (by omega) (by omega)) fun r70 ⟨s1,s2,a,s3,s4⟩=>?_
   refine Ok.bind (Zwh s2) fun r58 ⟨d1,d2⟩=>?_
   obtain⟨C1,hC1⟩:=Z2q (l:=r68.1) (a:=a) (by omega) (by omega)
   rw [← s4] at hC1
   rw [Zo6 (by omega) m1 s1.inL hC1 d1]
   refine Ok.lift (Ok.lift ?_)
   refine Ok.bind (p:=fun v=>v.1=false∧TOk v.2) ?_ fun v ⟨v1,v2⟩=>?_
   ·refine Ok.ite (fun hc=>by cases hc) fun _=>?_
    refine Ok.bind (Zxs true d2 (by omega) (by omega)) fun r76 ⟨b1,b2,b3⟩=>?_
    refine Ok.bind (Zwh b3) fun r66 ⟨d3,d4⟩=>?_
    obtain⟨C2,hC2⟩:=Zzz (l:=r68.1) (s:=r76.1) (by omega) (by omega)
    rw [Zo6 (by omega) m1 ⟨by omega,fun x hx=>(b1 x hx).1⟩ hC2 d3]
    exact Ok.lift (Ok.ret ⟨rfl,d4⟩)
   ·rw [v1,if_neg (by decide),wsucc (by omega)]
    exact kk _ v2
  ·rw [Zbt,if_neg (by simp)]
   exact Ok.ret ⟨s,rfl⟩
 obtain⟨o,e1,⟨v,rfl⟩⟩:=key t0 h0
 simp only [Option.bind_some,e1]
 unfold Zhu
 simp only [Option.bind_some]
 by_cases h1:l.length≤4
 ·rw [if_neg (by simp; omega)]
  simp only [Option.bind_some]
  by_cases h2:s.length≤6
  ·obtain⟨C,hC⟩:=Zzz (l:=l) (s:=s) h1 h2
   rw [if_neg (by simp; omega),Zo6 (by omega) (fun m hm=>Z3s (hl.2 m hm)) ⟨by omega,fun x hx=>Z0u (hs.2 x hx)⟩ hC hh]
   simp only [Option.bind_some,if_true,hsane]
  ·rw [if_pos (by simp; omega)]
   rfl
 ·rw [if_pos (by simp; omega)]
  simp only [Option.bind_some,if_true]
end Go.AM

/- Parts of a proof, printed short. No condition. -/
import Derived.Sort.LotD5
import Derived.Test.YtkeeaccnnljimaaDoorInQ4
set_option maxRecDepth 100000
namespace Go.AM
open Go
theorem Zr8 {n b:Nat} (hB:n≤sB) (hb:b≤n) {d:Array Int} (hd:d.size=n):∀(k i m:Nat),b - i≤k→k<m→0<i→i≤n + 1 →
  Z7 n (b:Int) d.toList m (i:Int)=some ((Sort.scanSorted Sort.ltInt d b i:Nat):Int):=by
 have hB':=hB
 unfold sB at hB
 intro k
 induction k with
 | zero=>
  intro i m hk hm h0 hi
  cases m with
  | zero=>omega
  | succ m=>
  rw [Z7,Sort.scanSorted,decide_eq_false (by omega),if_neg (show ¬ (decide (i<b) && !Sort.ltInt d[i]! d[i - 1]!)=true by simp; omega)]
  simp
 | succ k ih=>
  intro i m hk hm h0 hi
  cases m with
  | zero=>omega
  | succ m=>
  rw [Z7,Sort.scanSorted]
  by_cases h:i<b
  ·obtain⟨i',rfl⟩:∃ i',i=i' + 1:=⟨i - 1,by omega⟩
   rw [decide_eq_true (show ((i' + 1:Nat):Int)<(b:Int) by omega),decide_eq_true h]
   simp only [Option.bind_some,if_true,wpred (show i' + 1<1000000000000 by omega),Z2 hd (show i' + 1<n by omega),Z2 hd (show i'<n by omega),Zen,Nat.add_sub_cancel,Bool.true_and]
   cases hl:Sort.ltInt d[i' + 1]! d[i']! with
   | true=>simp
   | false=>
    simp only [Bool.not_false,if_true,wsuc (show i' + 1 + 1<1000000000000 by omega)]
    exact ih (i' + 1 + 1) m (by omega) (by omega) (by omega) (by omega)
  ·rw [decide_eq_false (show ¬ (i:Int)<(b:Int) by omega),decide_eq_false h]
   simp
theorem Zq5 {d:Array Int} {b:Nat}:∀(k i:Nat),b - i≤k→i≤Sort.scanSorted Sort.ltInt d b i∧(i≤b→Sort.scanSorted Sort.ltInt d b i≤b):=by
 intro k
 induction k with
 | zero=>intro i hk; rw [Sort.scanSorted,if_neg (by simp; omega)]; omega
 | succ k ih=>
  intro i hk
  rw [Sort.scanSorted]
  split
  ·rename_i h
   simp only [Bool.and_eq_true,decide_eq_true_eq] at h
   have:=ih (i + 1) (by omega)
   omega
  ·omega
theorem Znd {n:Nat} (hB:n≤sB):∀(j m:Nat) (d:Array Int),d.size=n→j<n→j<m →
  Z3 n m d.toList (j:Int)=some (Sort.shiftDown Sort.ltInt j d).toList
 | 0,m + 1,d,hd,hj,hm=>by
  rw [Z3,if_neg (by simp)]; rfl
 | j + 1,m + 1,d,hd,hj,hm=>by
  have ih:=Znd hB j m
  unfold sB at hB
  obtain⟨y,hy⟩:=Zd3 (i:=j + 1) (x:=d[j]!) hd (show j<n by omega)
  rw [Z3,Sort.shiftDown,if_pos (decide_eq_true (by omega))]
  simp only [wpred (show j + 1<1000000000000 by omega),Z2 hd hj,Z2 hd (show j<n by omega),Option.bind_some,Zen,Int.toNat_natCast,hy,Zd8]
  cases hl:Sort.ltInt d[j + 1]! d[j]! with
  | false=>rfl
  | true=>
   simp only [Bool.not_true,Bool.false_eq_true,if_false]
   exact ih _ (by rw [swp_sz,hd]) (by omega) (by omega)
theorem Ziq {n:Nat}:∀(j:Nat) (d:Array Int),d.size=n→(Sort.shiftDown Sort.ltInt j d).size=n
 | 0,_,hd=>hd
 | j + 1,d,hd=>by
  rw [Sort.shiftDown]
  split
  ·exact hd
  ·exact Ziq j _ (by rw [swp_sz,hd])
theorem Zvf {n b:Nat} (hB:n≤sB) (hb:b≤n):∀(k j m:Nat) (d:Array Int),d.size=n→b - j≤k→k<m→0<j→j≤n + 1 →
  Z8 n (b:Int) m d.toList (j:Int)=some (Sort.shiftUp Sort.ltInt b j d).toList:=by
 have hB':=hB
 unfold sB at hB
 intro k
 induction k with
 | zero=>
  intro j m d hd hk hm h0 hj
  cases m with
  | zero=>omega
  | succ m=>rw [Z8,Sort.shiftUp,if_neg (by simp; omega),if_neg (by omega)]
 | succ k ih=>
  intro j m d hd hk hm h0 hj
  cases m with
  | zero=>omega
  | succ m=>
  rw [Z8,Sort.shiftUp]
  by_cases h:j<b
  ·rw [if_pos (decide_eq_true (by omega)),if_pos h]
   obtain⟨j',rfl⟩:∃ j',j=j' + 1:=⟨j - 1,by omega⟩
   obtain⟨y,hy⟩:=Zd3 (i:=j' + 1) (x:=d[j']!) hd (show j'<n by omega)
   simp only [wpred (show j' + 1<1000000000000 by omega),Z2 hd (show j' + 1<n by omega),Z2 hd (show j'<n by omega),Option.bind_some,Zen,Int.toNat_natCast,hy,Zd8,Nat.add_sub_cancel]
   cases hl:Sort.ltInt d[j' + 1]! d[j']! with
   | false=>rfl
   | true=>
    simp only [Bool.not_true,Bool.false_eq_true,if_false,wsuc (show j' + 1 + 1<1000000000000 by omega)]
    exact ih (j' + 1 + 1) m _ (by rw [swp_sz,hd]) (by omega) (by omega) (by omega) (by omega)
  ·rw [if_neg (by simp; omega),if_neg h]
theorem Zqj {n b:Nat}:∀(k j:Nat) (d:Array Int),d.size=n→b - j≤k→(Sort.shiftUp Sort.ltInt b j d).size=n:=by
 intro k
 induction k with
 | zero=>intro j d hd hk; rw [Sort.shiftUp,if_neg (by omega)]; exact hd
 | succ k ih=>
  intro j d hd hk
  rw [Sort.shiftUp]
  split
  ·split
   ·exact hd
   ·exact ih _ _ (by rw [swp_sz,hd]) (by omega)
  ·exact hd
def outP (r:Array Int × Bool) (o:List Int ⊕ (Bool × List Int)):Prop:=(o=.inl r.1.toList∧r.2=false)∨o=.inr (r.2,r.1.toList)
theorem Zmf {n a b:Nat} (hB:n≤sB) (hb:b≤n) (hab:a<b):∀(s c i m:Nat) (d:Array Int),d.size=n→c + s=5→s<m→a<i→i≤b →
  Ok (Z9 n (a:Int) (b:Int) m d.toList (i:Int) (c:Int)) (outP (Sort.partialIns Sort.ltInt a b s i d))
 | 0,c,i,m + 1,d,hd,hc,hm,hai,hi=>by
  rw [Z9,if_neg (by simp; omega)]
  exact⟨_,rfl,Or.inl ⟨rfl,rfl⟩⟩
 | s + 1,c,i,m + 1,d,hd,hc,hm,hai,hi=>by
  have ih:=Zmf hB hb hab s (c + 1)
  have hB':=hB
  unfold sB at hB
  rw [Z9,if_pos (decide_eq_true (by omega)),Zr8 hB' hb hd (b - i) i fuel (Nat.le_refl _) (by unfold fuel; omega) (by omega) (by omega),Sort.partialIns]
  obtain⟨g1,g2⟩:=Zq5 (d:=d) (b - i) i (Nat.le_refl _)
  have g2:=g2 hi
  generalize Sort.scanSorted Sort.ltInt d b i=j at g1 g2 ⊢
  simp only [Option.bind_some]
  by_cases h1:j=b
  ·rw [if_pos (by simp [h1]),if_pos h1]
   exact⟨_,rfl,Or.inr rfl⟩
  ·rw [if_neg (by simp; omega),if_neg h1,wsub (by omega) (by omega)]
   by_cases h2:b - a<50
   ·rw [if_pos (decide_eq_true (by omega)),if_pos h2]
    exact⟨_,rfl,Or.inr rfl⟩
   ·rw [if_neg (by simp; omega),if_neg h2]
    obtain⟨j',rfl⟩:∃ j',j=j' + 1:=⟨j - 1,by omega⟩
    obtain⟨y,hy⟩:=Zd3 (i:=j' + 1) (x:=d[j']!) hd (show j'<n by omega)
    simp only [wpred (show j' + 1<1000000000000 by omega),Z2 hd (show j' + 1<n by omega),Z2 hd (show j'<n by omega),Option.bind_some,Int.toNat_natCast,hy,Zd8,Nat.add_sub_cancel]
    rw [wsub (i:=j' + 1) (j:=a) (by omega) (by omega),wsub (i:=b) (j:=j' + 1) (by omega) (by omega)]
    have hd2:(Sort.swp d (j' + 1) j').size=n:=by rw [swp_sz,hd]
    generalize Sort.swp d (j' + 1) j'=d2 at hd2 ⊢
    have e3:(if (decide (((j' + 1 - a:Nat):Int) ≥ 2))=true then (Z3 n fuel d2.toList (j':Int)).bind fun(v1191:(List Int))=>some v1191 else some d2.toList)=some (if j' + 1 - a ≥ 2 then Sort.shiftDown Sort.ltInt j' d2 else d2).toList:=by
     by_cases h3:j' + 1 - a ≥ 2
     ·rw [if_pos (decide_eq_true (by omega)),if_pos h3,Znd hB' j' fuel d2 hd2 (by omega) (by unfold fuel; omega)]; rfl
     ·rw [if_neg (by simp; omega),if_neg h3]
    rw [e3]
    have hd3:(if j' + 1 - a ≥ 2 then Sort.shiftDown Sort.ltInt j' d2 else d2).size=n:=by
     split
     ·exact Ziq _ _ hd2
     ·exact hd2
    generalize (if j' + 1 - a ≥ 2 then Sort.shiftDown Sort.ltInt j' d2 else d2)=d3 at hd3 ⊢
    simp only [Option.bind_some]
    rw [wsuc (j:=j' + 1) (by omega),wsuc (j:=c) (by omega)]
    by_cases h4:b - (j' + 1) ≥ 2
    ·rw [if_pos (decide_eq_true (by omega)),if_pos h4,Zvf hB' hb (b - (j' + 1 + 1)) (j' + 1 + 1) fuel d3 hd3 (Nat.le_refl _) (by unfold fuel; omega) (by omega) (by omega)]
     simp only [Option.bind_some]
     exact ih (j' + 1) m _ (Zqj _ _ _ hd3 (Nat.le_refl _)) (by omega) (by omega) (by omega) (by omega)
    ·rw [if_neg (by simp; omega),if_neg h4]
     simp only [Option.bind_some]
     exact ih (j' + 1) m _ hd3 (by omega) (by omega) (by omega) (by omega)
theorem Zkr {n a b:Nat} (hB:n≤sB) (hb:b≤n) (hab:a<b) {d:Array Int} (hd:d.size=n) :
  Zam n d.toList (a:Int) (b:Int)=some ((Sort.partialInsertionSort Sort.ltInt d a b).2,(Sort.partialInsertionSort Sort.ltInt d a b).1.toList):=by
 unfold Zam Sort.partialInsertionSort
 have hB':=hB
 unfold sB at hB
 rw [wsuc (by omega)]
 obtain⟨o,e,ho⟩:=Zmf hB' hb hab 5 0 (a + 1) fuel d hd rfl (by unfold fuel; omega) (by omega) (by omega)
 rw [show ((0:Nat):Int)=0 from rfl] at e
 rw [e]
 rcases ho with ⟨rfl,h⟩ | rfl
 ·simp only [Option.bind_some,h]
 ·rfl
theorem Zne {n a b s:Nat} {d:Array Int} (hd:d.size=n) (ha:a<n) (hb:b<n) (hs:s<1000):Zbj n d.toList (a:Int) (b:Int) (s:Int)=some (((Sort.order2 Sort.ltInt d a b s).1:Int),((Sort.order2 Sort.ltInt d a b s).2.1:Int),((Sort.order2 Sort.ltInt d a b s).2.2:Int)):=by
 unfold Zbj Sort.order2
 simp only [Z2 hd ha,Z2 hd hb,Option.bind_some,Zen,wsuc (show s + 1<1000000000000 by omega)]
 split <;> rfl
theorem Zir {n a b s:Nat} {d:Array Int} (ha:a<n) (hb:b<n):(Sort.order2 Sort.ltInt d a b s).1<n∧(Sort.order2 Sort.ltInt d a b s).2.1<n∧(Sort.order2 Sort.ltInt d a b s).2.2≤s + 1:=by
 unfold Sort.order2
 split
 ·exact⟨hb,ha,by simp⟩
 ·exact⟨ha,hb,by simp⟩
theorem Znf {n a b c s:Nat} {d:Array Int} (hd:d.size=n) (ha:a<n) (hb:b<n) (hc:c<n) (hs:s<900):Zbz n d.toList (a:Int) (b:Int) (c:Int) (s:Int)=some (((Sort.median Sort.ltInt d a b c s).1:Int),((Sort.median Sort.ltInt d a b c s).2:Int)):=by
 unfold Zbz Sort.median
 obtain⟨g1,g2,g3⟩:=Zir (s:=s) (d:=d) ha hb
 rw [Zne hd ha hb (by omega)]
 simp only [Option.bind_some]
 obtain⟨h1,h2,h3⟩:=Zir (s:=(Sort.order2 Sort.ltInt d a b s).2.2) (d:=d) g2 hc
 rw [Zne hd g2 hc (by omega)]
 simp only [Option.bind_some]
 rw [Zne hd g1 h1 (by omega)]
 rfl
theorem Zvg {n a b c s:Nat} {d:Array Int} (ha:a<n) (hb:b<n) (hc:c<n):(Sort.median Sort.ltInt d a b c s).1<n∧(Sort.median Sort.ltInt d a b c s).2≤s + 3:=by
 unfold Sort.median
 obtain⟨g1,g2,g3⟩:=Zir (s:=s) (d:=d) ha hb
 obtain⟨h1,h2,h3⟩:=Zir (s:=(Sort.order2 Sort.ltInt d a b s).2.2) (d:=d) g2 hc
 obtain⟨k1,k2,k3⟩:=Zir (s:=(Sort.order2 Sort.ltInt d (Sort.order2 Sort.ltInt d a b s).2.1 c (Sort.order2 Sort.ltInt d a b s).2.2).2.2) (d:=d) g1 h1
 exact⟨k2,Nat.le_trans k3 (by omega)⟩
theorem Zhm {n a s:Nat} (hB:n≤sB) {d:Array Int} (hd:d.size=n) (h0:0<a) (ha:a + 1<n) (hs:s<900):Zap n d.toList (a:Int) (s:Int)=some (((Sort.medianAdjacent Sort.ltInt d a s).1:Int),((Sort.medianAdjacent Sort.ltInt d a s).2:Int)):=by
 unfold sB at hB
 unfold Zap Sort.medianAdjacent
 obtain⟨a',rfl⟩:∃ a',a=a' + 1:=⟨a - 1,by omega⟩
 rw [wpred (by omega),wsuc (by omega),Znf hd (by omega) (by omega) ha hs]
 rfl
theorem Zg7 {n a s:Nat} {d:Array Int} (ha:a + 1<n):(Sort.medianAdjacent Sort.ltInt d a s).1<n∧(Sort.medianAdjacent Sort.ltInt d a s).2≤s + 3:=by
 unfold Sort.medianAdjacent
 exact Zvg (by omega) (by omega) ha
def hintN:Sort.Hint→Int
 | .unknown=>0
 | .increasing=>1
 | .decreasing=>2
theorem Zq6 {n a b:Nat} (hB:n≤sB) (hab:a<b) (hb:b≤n) {d:Array Int} (hd:d.size=n) :
  Zby n d.toList (a:Int) (b:Int)=some (((Sort.choosePivot Sort.ltInt d a b).1:Int),hintN (Sort.choosePivot Sort.ltInt d a b).2):=by
 have hB':=hB
 unfold sB at hB
 unfold Zby
 have ew:IntKind.wrap .i64 ((b:Int) - (a:Int))=((b - a:Nat):Int):=wsub (by omega) (by omega)
 have eq4:IntKind.wrap .i64 (Int.tdiv ((b - a:Nat):Int) (4:Int))=(((b - a) / 4:Nat):Int):=by
  rw [Int.tdiv_eq_ediv_of_nonneg (by omega),wi64 (by omega) (by omega)]; omega
 have ep:∀ k:Nat,k≤3→IntKind.wrap .i64 ((a:Int) + IntKind.wrap .i64 ((((b - a) / 4:Nat):Int) * (k:Int)))=((a + (b - a) / 4 * k:Nat):Int):=fun k hk=>by
  have h1:(b - a) / 4 * k≤(b - a) / 4 * 3:=Nat.mul_le_mul_left _ hk
  have e2:(((b - a) / 4:Nat):Int) * (k:Int)=(((b - a) / 4 * k:Nat):Int):=by push_cast; rfl
  rw [e2,wi64 (x:=(((b - a) / 4 * k:Nat):Int)) (by omega) (by omega),wadd (by omega)]
 have e1:=ep 1 (by omega)
 have e2:=ep 2 (by omega)
 have e3:=ep 3 (by omega)
 rw [show ((1:Nat):Int)=1 from rfl] at e1
 rw [show ((2:Nat):Int)=2 from rfl] at e2
 rw [show ((3:Nat):Int)=3 from rfl] at e3
 rw [ew,eq4,e1,e2,e3]
 have fin:∀(r:Nat × Nat),(match ((r.2:Int),(r.1:Int)) with
   | (v24,v25)=>if (v24 == (0:Int))=true then some (v25,(1:Int)) else if (v24 == (12:Int))=true then some (v25,(2:Int)) else some (v25,(0:Int))) =
   some ((r.1:Int),hintN (if r.2=0 then .increasing else if r.2=12 then .decreasing else .unknown)):=fun r=>by
  simp only [beq_iff_eq]
  by_cases h0:r.2=0
  ·rw [if_pos (by omega),if_pos h0]; rfl
  ·rw [if_neg (by omega),if_neg h0]
   by_cases h1:r.2=12
   ·rw [if_pos (by omega),if_pos h1]; rfl
   ·rw [if_neg (by omega),if_neg h1]; rfl
 unfold Sort.choosePivot
 simp only
 by_cases h8:b - a ≥ 8
 ·rw [if_pos (decide_eq_true (show ((b - a:Nat):Int) ≥ 8 by omega)),if_pos h8]
  by_cases h50:b - a ≥ 50
  ·rw [if_pos (decide_eq_true (show ((b - a:Nat):Int) ≥ 50 by omega)),if_pos h50]
   have l1:a + (b - a) / 4 * 3 + 1<n:=by omega
   rw [show (0:Int)=((0:Nat):Int) from rfl]
   rw [Zhm hB' hd (by omega) (by omega) (by omega)]
   obtain⟨p1,p2⟩:=Zg7 (n:=n) (a:=a + (b - a) / 4 * 1) (s:=0) (d:=d) (by omega)
   simp only [Option.bind_some]
   rw [Zhm hB' hd (by omega) (by omega) (by omega)]
   obtain⟨q1,q2⟩:=Zg7 (n:=n) (a:=a + (b - a) / 4 * 2) (s:=(Sort.medianAdjacent Sort.ltInt d (a + (b - a) / 4 * 1) 0).2) (d:=d) (by omega)
   simp only [Option.bind_some]
   rw [Zhm hB' hd (by omega) (by omega) (by omega)]
   obtain⟨s1,s2⟩:=Zg7 (n:=n) (a:=a + (b - a) / 4 * 3) (s:=(Sort.medianAdjacent Sort.ltInt d (a + (b - a) / 4 * 2) (Sort.medianAdjacent Sort.ltInt d (a + (b - a) / 4 * 1) 0).2).2) (d:=d) (by omega)
   simp only [Option.bind_some]
   rw [Znf hd p1 q1 s1 (by omega)]
   simp only [Option.bind_some]
   exact fin _
  ·rw [if_neg (by simp; omega),if_neg h50]
   rw [show (0:Int)=((0:Nat):Int) from rfl]
   simp only [Option.bind_some]
   rw [Znf hd (by omega) (by omega) (by omega) (by omega)]
   simp only [Option.bind_some]
   exact fin _
 ·rw [if_neg (by simp; omega),if_neg h8]
  simp only [Option.bind_some]
  exact fin (a + (b - a) / 4 * 2,0)
end Go.AM
set_option maxRecDepth 100000
namespace Go.AM
open Go
theorem Zlb {x:Nat} (h:256≤x):Sort.bitsLen x=Sort.bitsLen (x / 256) + 8:=by
 have h1:∀ m,Sort.bitsLen x≤m + 8 ↔ Sort.bitsLen (x / 256)≤m:=fun m=>by
  rw [Sort.bitsLen_le_iff,Sort.bitsLen_le_iff,Nat.pow_add]
  have:0<2 ^ m:=Nat.pow_pos (by omega)
  omega
 have h2:=(h1 (Sort.bitsLen (x / 256))).2 (Nat.le_refl _)
 have h3:¬ Sort.bitsLen x≤8:=by rw [Sort.bitsLen_le_iff]; omega
 have h4:=(h1 (Sort.bitsLen x - 8)).1 (by omega)
 omega
theorem Zpb (x k:Nat) (hk:k≤64):bShr .u64 (x:Int) (k:Int)=((x / 2 ^ k:Nat):Int):=by
 unfold bShr
 rw [Int.toNat_natCast,show min k (IntKind.bits .u64)=k from Nat.min_eq_left hk,Int.fdiv_eq_ediv_of_nonneg _ (by exact Int.le_of_lt (by exact Int.pow_pos (by decide)))]
 push_cast; rfl
def len8:ByteArray:=⟨#[0,1,2,2,3,3,3,3,4,4,4,4,4,4,4,4,5,5,5,5,5,5,5,5,5,5,5,5,5,5,5,5,6,6,6,6,6,6,6,6,6,6,6,6,6,6,6,6,6,6,6,6,6,6,6,6,6,6,6,6,6,6,6,6,7,7,7,7,7,7,7,7,7,7,7,7,7,7,7,7,7,7,7,7,7,7,7,7,7,7,7,7,7,7,7,7,7,7,7,7,7,7,7,7,7,7,7,7,7,7,7,7,7,7,7,7,7,7,7,7,7,7,7,7,7,7,7,7,8,8,8,8,8,8,8,8,8,8,8,8,8,8,8,8,8,8,8,8,8,8,8,8,8,8,8,8,8,8,8,8,8,8,8,8,8,8,8,8,8,8,8,8,8,8,8,8,8,8,8,8,8,8,8,8,8,8,8,8,8,8,8,8,8,8,8,8,8,8,8,8,8,8,8,8,8,8,8,8,8,8,8,8,8,8,8,8,8,8,8,8,8,8,8,8,8,8,8,8,8,8,8,8,8,8,8,8,8,8,8,8,8,8,8,8,8,8,8,8,8,8,8,8,8,8,8,8]⟩
theorem Zwx:(List.range 256).map (fun i=>len8.data[i]?.map (·.toNat))=(List.range 256).map (fun i=>some (Sort.bitsLen i)):=by kernel_rfl
theorem Zq7 {i:Nat} (h:i<256):sidx ⟨#[0,1,2,2,3,3,3,3,4,4,4,4,4,4,4,4,5,5,5,5,5,5,5,5,5,5,5,5,5,5,5,5,6,6,6,6,6,6,6,6,6,6,6,6,6,6,6,6,6,6,6,6,6,6,6,6,6,6,6,6,6,6,6,6,7,7,7,7,7,7,7,7,7,7,7,7,7,7,7,7,7,7,7,7,7,7,7,7,7,7,7,7,7,7,7,7,7,7,7,7,7,7,7,7,7,7,7,7,7,7,7,7,7,7,7,7,7,7,7,7,7,7,7,7,7,7,7,7,8,8,8,8,8,8,8,8,8,8,8,8,8,8,8,8,8,8,8,8,8,8,8,8,8,8,8,8,8,8,8,8,8,8,8,8,8,8,8,8,8,8,8,8,8,8,8,8,8,8,8,8,8,8,8,8,8,8,8,8,8,8,8,8,8,8,8,8,8,8,8,8,8,8,8,8,8,8,8,8,8,8,8,8,8,8,8,8,8,8,8,8,8,8,8,8,8,8,8,8,8,8,8,8,8,8,8,8,8,8,8,8,8,8,8,8,8,8,8,8,8,8,8,8,8,8,8,8]⟩ (i:Int)=some ((Sort.bitsLen i:Nat):Int):=by
 have h1:len8.data[i]?.map (·.toNat)=some (Sort.bitsLen i):=List.map_inj_left.1 Zwx i (List.mem_range.2 h)
 have hs:len8.size=256:=by kernel_rfl
 have h2:i<len8.data.size:=by show i<len8.size; omega
 rw [Array.getElem?_eq_getElem h2] at h1
 simp only [Option.map_some,Option.some.injEq] at h1
 show sidx len8 (i:Int)=_
 unfold sidx
 rw [dif_pos ⟨by omega,by omega⟩,← h1]
 rfl
theorem Len_eq {x:Nat} (h:x<16777216):Ze5 (x:Int)=some ((Sort.bitsLen x:Nat):Int):=by
 have w8:∀ y:Nat,y<256→IntKind.wrap .u8 (y:Int)=(y:Int):=fun y hy=>by rw [wrap_u .u8 8 rfl rfl]; omega
 have hb:∀ y:Nat,y<256→Sort.bitsLen y≤8:=fun y hy=>(Sort.bitsLen_le_iff y 8).2 (by omega)
 unfold Ze5 Zgf
 rw [if_neg (by simp; omega)]
 simp only [Option.bind_some]
 have e16:bShr .u64 (x:Int) (16:Int)=((x / 65536:Nat):Int):=Zpb x 16 (by omega)
 have e8:bShr .u64 (x:Int) (8:Int)=((x / 256:Nat):Int):=Zpb x 8 (by omega)
 by_cases h1:x<65536
 ·rw [if_neg (show ¬ (decide ((x:Int) ≥ 65536))=true by simp; omega)]
  simp only [Option.bind_some]
  by_cases h2:x<256
  ·rw [if_neg (show ¬ (decide ((x:Int) ≥ 256))=true by simp; omega)]
   simp only [Option.bind_some]
   rw [w8 x h2,Zq7 h2]
   have:=hb x h2
   simp only [Option.bind_some]
   rw [wi64 (x:=((Sort.bitsLen x:Nat):Int)) (by omega) (by omega),wi64 (by omega) (by omega),Int.zero_add]
  ·rw [if_pos (decide_eq_true (show (x:Int) ≥ 256 by omega)),e8]
   simp only [Option.bind_some]
   have h3:x / 256<256:=by omega
   rw [w8 _ h3,Zq7 h3,Zlb (show 256≤x by omega)]
   have:=hb _ h3
   simp only [Option.bind_some]
   rw [wi64 (x:=((Sort.bitsLen (x / 256):Nat):Int)) (by omega) (by omega),wi64 (x:=(0:Int) + 8) (by omega) (by omega),wi64 (by omega) (by omega)]
   congr 1; omega
 ·rw [if_pos (decide_eq_true (show (x:Int) ≥ 65536 by omega)),e16]
  simp only [Option.bind_some]
  have h3:x / 65536<256:=by omega
  rw [if_neg (show ¬ (decide (((x / 65536:Nat):Int) ≥ 256))=true by simp; omega)]
  simp only [Option.bind_some]
  rw [w8 _ h3,Zq7 h3,Zlb (show 256≤x by omega),Zlb (show 256≤x / 256 by omega),Nat.div_div_eq_div_mul]
  have:=hb _ h3
  simp only [Option.bind_some]
  rw [wi64 (x:=((Sort.bitsLen (x / 65536):Nat):Int)) (by omega) (by omega),wi64 (x:=(0:Int) + 16) (by omega) (by omega),wi64 (by omega) (by omega)]
  congr 1
  show _=((Sort.bitsLen (x / 65536) + 8 + 8:Nat):Int)
  omega
theorem Zpc {x y:Nat} (hx:x<2 ^ 64) (hy:y<2 ^ 64):bXor .u64 (x:Int) (y:Int)=((x ^^^ y:Nat):Int):=by
 have h:=Nat.xor_lt_two_pow hx hy
 unfold bXor
 have e:(BitVec.ofInt (IntKind.bits .u64) (x:Int) ^^^ BitVec.ofInt (IntKind.bits .u64) (y:Int)).toNat=x ^^^ y:=by
  rw [BitVec.ofInt_natCast,BitVec.ofInt_natCast]
  show (BitVec.ofNat 64 x ^^^ BitVec.ofNat 64 y).toNat=_
  rw [BitVec.toNat_xor,BitVec.toNat_ofNat,BitVec.toNat_ofNat,Nat.mod_eq_of_lt hx,Nat.mod_eq_of_lt hy]
 rw [e,wu64 (by omega) (by omega)]
theorem Zwy {x y:Nat} (hx:x<2 ^ 64) (hy:y<2 ^ 64):bAnd .u64 (x:Int) (y:Int)=((x &&& y:Nat):Int):=by
 have h:x &&& y<2 ^ 64:=Nat.and_lt_two_pow x hy
 unfold bAnd
 have e:(BitVec.ofInt (IntKind.bits .u64) (x:Int) &&& BitVec.ofInt (IntKind.bits .u64) (y:Int)).toNat=x &&& y:=by
  rw [BitVec.ofInt_natCast,BitVec.ofInt_natCast]
  show (BitVec.ofNat 64 x &&& BitVec.ofNat 64 y).toNat=_
  rw [BitVec.toNat_and,BitVec.toNat_ofNat,BitVec.toNat_ofNat,Nat.mod_eq_of_lt hx,Nat.mod_eq_of_lt hy]
 rw [e,wu64 (by omega) (by omega)]
theorem Zs6 (x k:Nat) (hk:k≤64):bShl .u64 (x:Int) (k:Int)=((x * 2 ^ k % 2 ^ 64:Nat):Int):=by
 unfold bShl
 rw [Int.toNat_natCast,show min k (IntKind.bits .u64)=k from Nat.min_eq_left hk,wrap_u .u64 64 rfl rfl]
 rw [Int.natCast_emod,Int.natCast_mul,Int.natCast_pow,Int.natCast_pow]; rfl
theorem Zv4 {x:Nat} (hx:x<2 ^ 64):Zdw (x:Int)=some (((Sort.xorNextN x:Nat):Int),((Sort.xorNextN x:Nat):Int)):=by
 unfold Zdw
 have a1:bShl .u64 (x:Int) (13:Int)=((x * 8192 % 18446744073709551616:Nat):Int):=Zs6 x 13 (by omega)
 have l1:x * 8192 % 18446744073709551616<2 ^ 64:=by omega
 rw [a1,Zpc hx l1]
 obtain⟨a,ha⟩:∃ a,a=x ^^^ (x * 8192 % 18446744073709551616):=⟨_,rfl⟩
 have l2:a<2 ^ 64:=by rw [ha]; exact Nat.xor_lt_two_pow hx l1
 rw [← ha]
 have a2:bShr .u64 (a:Int) (7:Int)=((a / 128:Nat):Int):=Zpb a 7 (by omega)
 have l3:a / 128<2 ^ 64:=by omega
 rw [a2,Zpc l2 l3]
 obtain⟨b,hb⟩:∃ b,b=a ^^^ (a / 128):=⟨_,rfl⟩
 have l4:b<2 ^ 64:=by rw [hb]; exact Nat.xor_lt_two_pow l2 l3
 rw [← hb]
 have a3:bShl .u64 (b:Int) (17:Int)=((b * 131072 % 18446744073709551616:Nat):Int):=Zs6 b 17 (by omega)
 rw [a3,Zpc l4 (by omega)]
 have e:Sort.xorNextN x=b ^^^ (b * 131072 % 18446744073709551616):=by rw [hb,ha]; rfl
 rw [e]
theorem Zwz {a l m idx:Nat} {st:UInt64 × Array Int} {n:Nat} (h:st.2.size=n):(Sort.breakStep a l m st idx).2.size=n:=by
 unfold Sort.breakStep; simp only; rw [swp_sz,h]
theorem Zv5 {n a b:Nat} (hB:n≤sB) (hb:b≤n) (h8:b - a ≥ 8) {m idx:Nat} {st:UInt64 × Array Int} (hd:st.2.size=n) (h1:a≤idx) (h2:idx<b) (hc:idx≤a + (b - a) / 4 * 2 + 1) :
  Zx n (a:Int) (b:Int) ((1 <<< Sort.bitsLen (b - a):Nat):Int) (m + 1) st.2.toList ((st.1.toNat:Nat):Int) (idx:Int) =
  Zx n (a:Int) (b:Int) ((1 <<< Sort.bitsLen (b - a):Nat):Int) m (Sort.breakStep a (b - a) (1 <<< Sort.bitsLen (b - a)) st idx).2.toList (((Sort.breakStep a (b - a) (1 <<< Sort.bitsLen (b - a)) st idx).1.toNat:Nat):Int) ((idx + 1:Nat):Int):=by
 have hB':=hB
 unfold sB at hB
 obtain⟨r,d⟩:=st
 simp only at hd ⊢
 have hp:2 ^ Sort.bitsLen (b - a)≤2 * (b - a):=Sort.two_pow_bitsLen_le (by omega)
 have hp0:0<2 ^ Sort.bitsLen (b - a):=Nat.pow_pos (by omega)
 rw [Zx]
 have ew:IntKind.wrap .i64 ((b:Int) - (a:Int))=((b - a:Nat):Int):=wsub (by omega) (by omega)
 have eq4:IntKind.wrap .i64 (Int.tdiv ((b - a:Nat):Int) (4:Int))=(((b - a) / 4:Nat):Int):=by
  rw [Int.tdiv_eq_ediv_of_nonneg (by omega),wi64 (by omega) (by omega)]; omega
 have e5:IntKind.wrap .i64 (IntKind.wrap .i64 ((a:Int) + IntKind.wrap .i64 ((((b - a) / 4:Nat):Int) * (2:Int))) + 1)=((a + (b - a) / 4 * 2 + 1:Nat):Int):=by
  rw [wi64 (x:=(((b - a) / 4:Nat):Int) * 2) (by omega) (by omega),wi64 (x:=(a:Int) + (((b - a) / 4:Nat):Int) * 2) (by omega) (by omega),wi64 (by omega) (by omega)]; omega
 rw [ew,eq4,e5,if_pos (decide_eq_true (by omega)),Zv4 (UInt64.toNat_lt r)]
 simp only [Option.bind_some]
 have hx:=Sort.xorNext_toNat r
 have hxl:=Sort.xorNextN_lt r.toNat (UInt64.toNat_lt r)
 unfold Sort.breakStep
 simp only
 rw [hx]
 rw [Nat.shiftLeft_eq,Nat.one_mul] at *
 generalize Sort.xorNextN r.toNat=x at hxl ⊢
 have em:IntKind.wrap .u64 (((2 ^ Sort.bitsLen (b - a):Nat):Int) - 1)=((2 ^ Sort.bitsLen (b - a) - 1:Nat):Int):=by
  rw [wu64 (by omega) (by omega)]; omega
 rw [em,Zwy hxl (by omega)]
 have ha:x &&& (2 ^ Sort.bitsLen (b - a) - 1)≤2 ^ Sort.bitsLen (b - a) - 1:=Nat.and_le_right
 generalize x &&& (2 ^ Sort.bitsLen (b - a) - 1)=o at ha ⊢
 rw [wi64 (x:=(o:Int)) (by omega) (by omega)]
 have eo:(if (decide ((o:Int) ≥ ((b - a:Nat):Int)))=true then some (IntKind.wrap .i64 ((o:Int) - ((b - a:Nat):Int))) else some (o:Int))=some ((if o ≥ b - a then o - (b - a) else o:Nat):Int):=by
  by_cases h:o ≥ b - a
  ·rw [if_pos (decide_eq_true (by omega)),if_pos h,wsub (by omega) h]
  ·rw [if_neg (by simp; omega),if_neg h]
 rw [eo]
 have ho:(if o ≥ b - a then o - (b - a) else o)<b - a:=by split <;> omega
 generalize (if o ≥ b - a then o - (b - a) else o)=q at ho ⊢
 simp only [Option.bind_some]
 rw [wadd (by omega)]
 obtain⟨y,hy⟩:=Zd3 (i:=idx) (x:=d[a + q]!) hd (show a + q<n by omega)
 simp only [Z2 hd (show a + q<n by omega),Z2 hd (show idx<n by omega),Option.bind_some,Int.toNat_natCast,hy,Zd8]
 rw [wsuc (by omega)]
theorem Zv6 {n a b:Nat} (hB:n≤sB) (hb:b≤n) (h8:b - a ≥ 8) {m idx:Nat} {st:UInt64 × Array Int} (hd:st.2.size=n) (hi:idx + 1=a + (b - a) / 4 * 2) (g:Nat→UInt64 × Array Int→UInt64 × Array Int) (hg:g=fun i s=>Sort.breakStep a (b - a) (1 <<< Sort.bitsLen (b - a)) s i) :
  ∃ z,Zx n (a:Int) (b:Int) ((1 <<< Sort.bitsLen (b - a):Nat):Int) (m + 1 + 1 + 1 + 1) st.2.toList ((st.1.toNat:Nat):Int) (idx:Int)=some ((g (idx + 2) (g (idx + 1) (g idx st))).2.toList,z):=by
 have hB':=hB
 unfold sB at hB
 have z:∀ i s,s.2.size=n→(g i s).2.size=n:=fun i s h=>by rw [hg]; exact Zwz h
 have st1:∀ m i s,s.2.size=n→a≤i→i<b→i≤a + (b - a) / 4 * 2 + 1→Zx n (a:Int) (b:Int) ((1 <<< Sort.bitsLen (b - a):Nat):Int) (m + 1) s.2.toList ((s.1.toNat:Nat):Int) (i:Int)=Zx n (a:Int) (b:Int) ((1 <<< Sort.bitsLen (b - a):Nat):Int) m (g i s).2.toList (((g i s).1.toNat:Nat):Int) ((i + 1:Nat):Int):=fun m i s h h1 h2 hc=>by
  rw [hg]; exact Zv5 hB' hb h8 h h1 h2 hc
 rw [st1 _ _ _ hd (by omega) (by omega) (by omega),st1 _ _ _ (z _ _ hd) (by omega) (by omega) (by omega),st1 _ _ _ (z _ _ (z _ _ hd)) (by omega) (by omega) (by omega)]
 rw [Zx]
 have ew:IntKind.wrap .i64 ((b:Int) - (a:Int))=((b - a:Nat):Int):=wsub (by omega) (by omega)
 have eq4:IntKind.wrap .i64 (Int.tdiv ((b - a:Nat):Int) (4:Int))=(((b - a) / 4:Nat):Int):=by
  rw [Int.tdiv_eq_ediv_of_nonneg (by omega),wi64 (by omega) (by omega)]; omega
 have e6:IntKind.wrap .i64 (IntKind.wrap .i64 ((a:Int) + IntKind.wrap .i64 ((((b - a) / 4:Nat):Int) * (2:Int))) + 1)=((a + (b - a) / 4 * 2 + 1:Nat):Int):=by
  rw [wi64 (x:=(((b - a) / 4:Nat):Int) * 2) (by omega) (by omega),wi64 (x:=(a:Int) + (((b - a) / 4:Nat):Int) * 2) (by omega) (by omega),wi64 (by omega) (by omega)]; omega
 rw [ew,eq4,e6,if_neg (by simp; omega)]
 exact⟨_,rfl⟩
theorem Zpd {n a b:Nat} (hB:n≤1000000) (hb:b≤n) (hab:a≤b) {d:Array Int} (hd:d.size=n) :
  Za5 n d.toList (a:Int) (b:Int)=some (Sort.breakPatterns d a b).toList:=by
 have hB':n≤sB:=by unfold sB; omega
 unfold Za5 Sort.breakPatterns
 have ew:IntKind.wrap .i64 ((b:Int) - (a:Int))=((b - a:Nat):Int):=wsub (by omega) (by omega)
 rw [ew]
 simp only
 by_cases h8:b - a ≥ 8
 ·rw [if_pos (decide_eq_true (show ((b - a:Nat):Int) ≥ 8 by omega)),if_pos h8]
  unfold Zeq
  rw [wu64 (x:=((b - a:Nat):Int)) (by omega) (by omega),Len_eq (by omega)]
  simp only [Option.bind_some]
  have hp:2 ^ Sort.bitsLen (b - a)≤2 * (b - a):=Sort.two_pow_bitsLen_le (by omega)
  have hl:Sort.bitsLen (b - a)<64:=by
   have:=(Sort.bitsLen_le_iff (b - a) 63).2 (by omega)
   omega
  rw [if_pos (by omega),Zws hl]
  simp only [Option.bind_some]
  have es:((2 ^ Sort.bitsLen (b - a):Nat):Int)=((1 <<< Sort.bitsLen (b - a):Nat):Int):=by rw [Nat.shiftLeft_eq,Nat.one_mul]
  have eq4:IntKind.wrap .i64 (Int.tdiv ((b - a:Nat):Int) (4:Int))=(((b - a) / 4:Nat):Int):=by
   rw [Int.tdiv_eq_ediv_of_nonneg (by omega),wi64 (by omega) (by omega)]; omega
  have e5:IntKind.wrap .i64 (IntKind.wrap .i64 ((a:Int) + IntKind.wrap .i64 ((((b - a) / 4:Nat):Int) * (2:Int))) - 1)=((a + (b - a) / 4 * 2 - 1:Nat):Int):=by
   rw [wi64 (x:=(((b - a) / 4:Nat):Int) * 2) (by omega) (by omega),wi64 (x:=(a:Int) + (((b - a) / 4:Nat):Int) * 2) (by omega) (by omega),wi64 (by omega) (by omega)]; omega
  have eu:((b - a:Nat):Int)=(((UInt64.ofNat (b - a)).toNat:Nat):Int):=by
   rw [UInt64.toNat_ofNat_of_lt' (by show b - a<18446744073709551616; omega)]
  rw [es,eq4,e5]
  have hf:fuel=1180591620717411303420 + 1 + 1 + 1 + 1:=by kernel_rfl
  obtain⟨z,hz⟩:=Zv6 (m:=1180591620717411303420) (idx:=a + (b - a) / 4 * 2 - 1) (st:=(UInt64.ofNat (b - a),d)) hB' hb h8 hd (by omega) _ rfl
  rw [← hf] at hz
  simp only at hz
  rw [eu,hz]
  simp only [Option.bind_some]
 ·rw [if_neg (by simp; omega),if_neg h8]
end Go.AM
set_option maxRecDepth 100000
namespace Go.AM
open Go
theorem swo_lt:Sort.SWO Sort.ltInt:=Sort.swo_ltInt
theorem Zx0 {n a b:Nat} (hab:a≤b) (hb:b≤n) {d:Array Int} (hd:d.size=n):(Sort.insertionSort Sort.ltInt d a b).size=n:=by
 rw [(Sort.insertionSort_holds swo_lt d a b hab (by omega)).1.1,hd]
theorem brk_sz {n a b:Nat} (hab:a≤b) (hb:b≤n) {d:Array Int} (hd:d.size=n):(Sort.breakPatterns d a b).size=n:=by
 rw [(Sort.breakPatterns_holds d a b hab (by omega)).1,hd]
theorem rev_sz {n a b:Nat} (hab:a≤b) (hb:b≤n) {d:Array Int} (hd:d.size=n):(Sort.reverseRange d a b).size=n:=by
 rw [(Sort.reverseRange_holds d a b hab (by omega)).1,hd]
theorem Zq8 {n a b:Nat}:∀(s i:Nat) (d:Array Int),d.size=n→(Sort.partialIns Sort.ltInt a b s i d).1.size=n
 | 0,_,d,hd=>hd
 | s + 1,i,d,hd=>by
  rw [Sort.partialIns]
  simp only
  split
  ·exact hd
  ·split
   ·exact hd
   ·refine Zq8 s _ _ ?_
    split
    ·refine Zqj _ _ _ ?_ (Nat.le_refl _)
     split
     ·exact Ziq _ _ (by rw [swp_sz,hd])
     ·rw [swp_sz,hd]
    ·split
     ·exact Ziq _ _ (by rw [swp_sz,hd])
     ·rw [swp_sz,hd]
theorem Zs7 {n a b p:Nat} (hp0:a≤p) (hp:p<b) (hb:b≤n) {d:Array Int} (hd:d.size=n) :
  a≤(Sort.partition Sort.ltInt d a b p).1∧(Sort.partition Sort.ltInt d a b p).1<b∧(Sort.partition Sort.ltInt d a b p).2.2.size=n:=by
 obtain⟨h1,h2,h3,_⟩:=Sort.partition_holds Sort.ltInt swo_lt d a b p hp0 hp (by omega)
 exact⟨h1,h2,by rw [h3.1,hd]⟩
theorem Zqk {n a b p:Nat} (hp0:a≤p) (hp:p<b) (hb:b≤n) {d:Array Int} (hd:d.size=n) :
  a<(Sort.partitionEqual Sort.ltInt d a b p).1∧(Sort.partitionEqual Sort.ltInt d a b p).1≤b∧(Sort.partitionEqual Sort.ltInt d a b p).2.size=n:=by
 unfold Sort.partitionEqual
 obtain⟨r1,r2,r3,_⟩:=Sort.partEqLoop_spec Sort.ltInt a b _ (a + 1) (b - 1) (Sort.swp d a p) (Nat.le_refl _) (Nat.lt_succ_self a) (by omega) (by omega) (by rw [swp_sz]; omega) (fun t h1 h2=>by omega) (fun t h1 h2=>by omega)
 exact⟨r1,r2,by rw [r3.1,swp_sz,hd]⟩
theorem pdq_sz {n:Nat}:∀(k:Nat) (d:Array Int) (a b limit:Nat) (wb wp:Bool),b - a≤k→d.size=n→a≤b→b≤n→(Sort.pdq Sort.ltInt d a b limit wb wp).size=n:=by
 intro k
 induction k using Nat.strongRecOn with
 | _ k ih=>
 intro d a b limit wb wp hk hd hab hb
 rw [Sort.pdq]
 split
 ·exact Zx0 hab hb hd
 ·rename_i h12
  split
  ·rw [(Sort.heapSort_holds swo_lt d a b hab (by omega)).1.1,hd]
  ·simp only
   have s1:(if (!wb)=true then Sort.breakPatterns d a b else d).size=n:=by
    split
    ·exact brk_sz hab hb hd
    ·exact hd
   generalize (if (!wb)=true then Sort.breakPatterns d a b else d)=d1 at s1 ⊢
   have hc:=Sort.choosePivot_holds Sort.ltInt d1 a b (by omega)
   generalize Sort.choosePivot Sort.ltInt d1 a b=c at hc ⊢
   have s2:(if c.2=.decreasing then Sort.reverseRange d1 a b else d1).size=n:=by
    split
    ·exact rev_sz hab hb s1
    ·exact s1
   generalize (if c.2=.decreasing then Sort.reverseRange d1 a b else d1)=d2 at s2 ⊢
   have hp:a≤(if c.2=.decreasing then (b - 1) - (c.1 - a) else c.1)∧(if c.2=.decreasing then (b - 1) - (c.1 - a) else c.1)<b:=by split <;> omega
   generalize (if c.2=.decreasing then (b - 1) - (c.1 - a) else c.1)=p at hp ⊢
   generalize (if c.2=.decreasing then Sort.Hint.increasing else c.2)=hint
   have s3:(if (wb && wp && decide (hint=.increasing))=true then Sort.partialInsertionSort Sort.ltInt d2 a b else (d2,false)).1.size=n:=by
    split
    ·exact Zq8 _ _ _ s2
    ·exact s2
   generalize (if (wb && wp && decide (hint=.increasing))=true then Sort.partialInsertionSort Sort.ltInt d2 a b else (d2,false))=pi at s3 ⊢
   split
   ·exact s3
   ·split
    ·obtain⟨h1,h2,h3⟩:=Zqk hp.1 hp.2 hb s3
     rw [dif_pos ⟨h1,h2⟩]
     exact ih _ (by omega) _ _ _ _ _ _ (Nat.le_refl _) h3 h2 hb
    ·obtain⟨h1,h2,h3⟩:=Zs7 hp.1 hp.2 hb s3
     rw [dif_pos ⟨h1,h2⟩]
     split
     ·exact ih _ (by omega) _ _ _ _ _ _ (Nat.le_refl _) (ih _ (by omega) _ _ _ _ _ _ (Nat.le_refl _) h3 h1 (by omega)) h2 hb
     ·exact ih _ (by omega) _ _ _ _ _ _ (Nat.le_refl _) (ih _ (by omega) _ _ _ _ _ _ (Nat.le_refl _) h3 h2 hb) h1 (by omega)
theorem Zw0 (h:Sort.Hint):(hintN h == (2:Int))=decide (h=.decreasing):=by cases h <;> rfl
theorem Zw1 (h:Sort.Hint):(hintN h == (1:Int))=decide (h=.increasing):=by cases h <;> rfl
theorem pdq_eq {n:Nat} (hB:n≤1000000):∀(k:Nat) (nr m:Nat) (d:Array Int) (a b limit:Nat) (wb wp:Bool),b - a≤k→k≤nr→k<m→d.size=n→a≤b→b≤n→limit<1000 →
  Zao n (Z1 nr) m d.toList (a:Int) (b:Int) (limit:Int) wb wp=some (Sort.pdq Sort.ltInt d a b limit wb wp).toList:=by
 have hB':n≤sB:=by unfold sB; omega
 intro k
 induction k using Nat.strongRecOn with
 | _ k ih=>
 intro nr m d a b limit wb wp hk hnr hm hd hab hb hlim
 cases m with
 | zero=>omega
 | succ m=>
 rw [Zao,Sort.pdq]
 have ew:IntKind.wrap .i64 ((b:Int) - (a:Int))=((b - a:Nat):Int):=wsub (by omega) hab
 rw [ew]
 by_cases h12:b - a≤12
 ·rw [if_pos (decide_eq_true (by omega)),if_pos h12,Zpa hB' hb hab hd]; rfl
 ·rw [if_neg (by simp; omega),if_neg h12]
  by_cases hl:limit=0
  ·rw [if_pos (by simp [hl]),if_pos hl,Zt4 hB' (by omega) hb hd]; rfl
  ·rw [if_neg (by simp [hl]),if_neg hl]
   have e1:(if (!wb)=true then (Za5 n d.toList (a:Int) (b:Int)).bind fun(r168:(List Int))=>some (r168,(IntKind.wrap .i64 ((limit:Int) - (1:Int)))) else some (d.toList,(limit:Int)))=some ((if (!wb)=true then Sort.breakPatterns d a b else d).toList,((if (!wb)=true then limit - 1 else limit:Nat):Int)):=by
    cases wb with
    | true=>rfl
    | false=>
     simp only [Bool.not_false,if_true]
     rw [Zpd hB hb hab hd,wi64 (by omega) (by omega)]
     simp only [Option.bind_some]
     congr 2; omega
   rw [e1]
   have s1:(if (!wb)=true then Sort.breakPatterns d a b else d).size=n:=by
    split
    ·exact brk_sz hab hb hd
    ·exact hd
   have hlim':(if (!wb)=true then limit - 1 else limit)<1000:=by split <;> omega
   simp only [Option.bind_some]
   generalize (if (!wb)=true then Sort.breakPatterns d a b else d)=d1 at s1 ⊢
   generalize (if (!wb)=true then limit - 1 else limit)=limit' at hlim' ⊢
   rw [Zq6 hB' (by omega) hb s1]
   simp only [Option.bind_some,Zw0]
   have hc:=Sort.choosePivot_holds Sort.ltInt d1 a b (by omega)
   generalize Sort.choosePivot Sort.ltInt d1 a b=c at hc ⊢
   obtain⟨c1,c2⟩:=c
   simp only at hc ⊢
   have e2:(if decide (c2=Sort.Hint.decreasing)=true then (Za9 n d1.toList (a:Int) (b:Int)).bind fun(r181:(List Int))=>some (r181,(IntKind.wrap .i64 ((IntKind.wrap .i64 ((b:Int) - (1:Int))) - (IntKind.wrap .i64 ((c1:Int) - (a:Int))))),(1:Int)) else some (d1.toList,(c1:Int),hintN c2)) =
     some ((if c2=.decreasing then Sort.reverseRange d1 a b else d1).toList,((if c2=.decreasing then (b - 1) - (c1 - a) else c1:Nat):Int),hintN (if c2=.decreasing then Sort.Hint.increasing else c2)):=by
    by_cases h:c2=.decreasing
    ·rw [if_pos (decide_eq_true h),if_pos h,if_pos h,if_pos h,Zqi hB' (by omega) hb s1]
     have g1:IntKind.wrap .i64 ((b:Int) - 1)=((b - 1:Nat):Int):=by rw [wi64 (by omega) (by omega)]; omega
     rw [g1,wsub (i:=c1) (j:=a) (by omega) (by omega),wsub (i:=b - 1) (j:=c1 - a) (by omega) (by omega)]
     rfl
    ·rw [if_neg (by simpa using h),if_neg h,if_neg h,if_neg h]
   rw [e2]
   have s2:(if c2=.decreasing then Sort.reverseRange d1 a b else d1).size=n:=by
    split
    ·exact rev_sz hab hb s1
    ·exact s1
   have hp:a≤(if c2=.decreasing then (b - 1) - (c1 - a) else c1)∧(if c2=.decreasing then (b - 1) - (c1 - a) else c1)<b:=by split <;> omega
   simp only [Option.bind_some,Zw1]
   generalize (if c2=.decreasing then Sort.reverseRange d1 a b else d1)=d2 at s2 ⊢
   generalize (if c2=.decreasing then (b - 1) - (c1 - a) else c1)=p at hp ⊢
   generalize (if c2=.decreasing then Sort.Hint.increasing else c2)=hint
   have e3:(if (wb && wp && decide (hint=Sort.Hint.increasing))=true then (Zam n d2.toList (a:Int) (b:Int)).bind fun(r199:(Bool × (List Int)))=>if r199.1=true then some (Sum.inr r199.2) else some (Sum.inl r199.2) else some (Sum.inl d2.toList)) =
     some (if (if (wb && wp && decide (hint=.increasing))=true then Sort.partialInsertionSort Sort.ltInt d2 a b else (d2,false)).2=true then Sum.inr (if (wb && wp && decide (hint=.increasing))=true then Sort.partialInsertionSort Sort.ltInt d2 a b else (d2,false)).1.toList else (Sum.inl (if (wb && wp && decide (hint=.increasing))=true then Sort.partialInsertionSort Sort.ltInt d2 a b else (d2,false)).1.toList:List Int ⊕ List Int)):=by
    by_cases h:(wb && wp && decide (hint=.increasing))=true
    ·rw [if_pos h,if_pos h,Zkr hB' hb (by omega) s2]
     simp only [Option.bind_some]
     split <;> rfl
    ·rw [if_neg h,if_neg h]; rfl
   rw [e3]
   have s3:(if (wb && wp && decide (hint=.increasing))=true then Sort.partialInsertionSort Sort.ltInt d2 a b else (d2,false)).1.size=n:=by
    split
    ·exact Zq8 _ _ _ s2
    ·exact s2
   simp only [Option.bind_some]
   generalize (if (wb && wp && decide (hint=.increasing))=true then Sort.partialInsertionSort Sort.ltInt d2 a b else (d2,false))=pi at s3 ⊢
   obtain⟨d3,pf⟩:=pi
   simp only at s3 ⊢
   cases pf with
   | true=>rfl
   | false=>
    simp only [Bool.false_eq_true,if_false]
    have e4:((if (decide ((a:Int) > (0:Int)))=true then (idxn n d3.toList (IntKind.wrap .i64 ((a:Int) - (1:Int)))).bind fun(x205:Int)=>(idxn n d3.toList (p:Int)).bind fun(x207:Int)=>(Zab x205 x207).bind fun(r209:Bool)=>some (!r209) else some false)) =
      some (decide (a > 0) && !Sort.ltInt d3[a - 1]! d3[p]!):=by
     cases a with
     | zero=>rfl
     | succ a=>
      rw [if_pos (decide_eq_true (by omega)),wpred (by omega),Z2 s3 (by omega),Z2 s3 (by omega)]
      simp only [Option.bind_some,Zen,Nat.add_sub_cancel,show a + 1 > 0 from Nat.succ_pos a,decide_true,Bool.true_and]
    rw [e4]
    simp only [Option.bind_some]
    by_cases h:(decide (a > 0) && !Sort.ltInt d3[a - 1]! d3[p]!)=true
    ·rw [if_pos h,if_pos h,Zof hB' hb hp.1 hp.2 s3]
     obtain⟨h1,h2,h3⟩:=Zqk hp.1 hp.2 hb s3
     generalize Sort.partitionEqual Sort.ltInt d3 a b p=r at h1 h2 h3 ⊢
     obtain⟨mid,d4⟩:=r
     simp only [Option.bind_some] at h1 h2 h3 ⊢
     rw [dif_pos ⟨h1,h2⟩]
     exact ih (b - mid) (by omega) nr m d4 mid b limit' wb wp (Nat.le_refl _) (by omega) (by omega) h3 h2 hb hlim'
    ·rw [if_neg h,if_neg h,Zs5 hB' hb hp.1 hp.2 s3]
     obtain⟨h1,h2,h3⟩:=Zs7 hp.1 hp.2 hb s3
     generalize Sort.partition Sort.ltInt d3 a b p=r at h1 h2 h3 ⊢
     obtain⟨mid,ap,d4⟩:=r
     simp only [Option.bind_some] at h1 h2 h3 ⊢
     rw [dif_pos ⟨h1,h2⟩,wsub (i:=mid) (j:=a) (by omega) h1,wsub (i:=b) (j:=mid) (by omega) (by omega),wsuc (by omega)]
     have e8:IntKind.wrap .i64 (Int.tdiv ((b - a:Nat):Int) (8:Int))=(((b - a) / 8:Nat):Int):=by
      rw [Int.tdiv_eq_ediv_of_nonneg (by omega),wi64 (by omega) (by omega)]; omega
     rw [e8]
     obtain⟨nr',rfl⟩:∃ nr',nr=nr' + 1:=⟨nr - 1,by omega⟩
     have sub:∀(d:Array Int) (x y:Nat),d.size=n→x≤y→y≤n→y - x<k→Z1 (nr' + 1) n d.toList (x:Int) (y:Int) (limit':Int)=some (Sort.pdq Sort.ltInt d x y limit' true true).toList:=fun d x y hz hxy hy hlt=>by
      rw [Z1,ih (y - x) hlt nr' fuel d x y limit' true true (Nat.le_refl _) (by omega) (by unfold fuel; omega) hz hxy hy hlim']
      rfl
     by_cases h4:mid - a<b - mid
     ·rw [if_pos (decide_eq_true (by omega)),if_pos h4,sub d4 a mid h3 h1 (by omega) (by omega)]
      simp only [Option.bind_some]
      rw [show decide (((mid - a:Nat):Int) ≥ (((b - a) / 8:Nat):Int))=decide (mid - a ≥ (b - a) / 8) from decide_eq_decide.2 (by omega)]
      exact ih (b - (mid + 1)) (by omega) _ m _ (mid + 1) b limit' _ ap (Nat.le_refl _) (by omega) (by omega) (pdq_sz _ _ _ _ _ _ _ (Nat.le_refl _) h3 h1 (by omega)) h2 hb hlim'
     ·rw [if_neg (by simp; omega),if_neg h4,sub d4 (mid + 1) b h3 h2 hb (by omega)]
      simp only [Option.bind_some]
      rw [show decide (((b - mid:Nat):Int) ≥ (((b - a) / 8:Nat):Int))=decide (b - mid ≥ (b - a) / 8) from decide_eq_decide.2 (by omega)]
      exact ih (mid - a) (by omega) _ m _ a mid limit' _ ap (Nat.le_refl _) (by omega) (by omega) (pdq_sz _ _ _ _ _ _ _ (Nat.le_refl _) h3 h2 hb) h1 (by omega) hlim'
theorem Zx1 {l:List Int} (hl:l.length≤1000000):Zcy l.length l=some (l.mergeSort (fun x y=>decide (x≤y))):=by
 unfold Zcy
 rw [wu64 (by omega) (by omega),Len_eq (by omega)]
 simp only [Option.bind_some]
 have hb:Sort.bitsLen l.length<1000:=by
  have:=(Sort.bitsLen_le_iff l.length 63).2 (by omega)
  omega
 have hf:fuel=1180591620717411303423 + 1:=by kernel_rfl
 have e:=pdq_eq (n:=l.length) hl l.length 1180591620717411303423 fuel l.toArray 0 l.length (Sort.bitsLen l.length) true true (by omega) (by omega) (by unfold fuel; omega) (by simp) (by omega) (Nat.le_refl _) hb
 rw [show (Z1 fuel)=Z1 (1180591620717411303423 + 1) from by rw [← hf],Z1]
 rw [show ((0:Nat):Int)=0 from rfl,show l.toArray.toList=l from rfl] at e
 rw [e]
 simp only [Option.bind_some]
 rw [← Sort.sortInt l]
 unfold Sort.sort
 rw [show l.toArray.size=l.length from by simp]
end Go.AM
set_option maxRecDepth 100000
namespace Go.AM
open Go
def dd (l:List Int):List Int:=l.foldl (fun acc x=>if acc.getLast? = some x then acc else acc++[x]) []
theorem Zls (l:List Int) (x:Int):dd (l++[x])=if (dd l).getLast? = some x then dd l else dd l++[x]:=by
 unfold dd; rw [List.foldl_append]; rfl
theorem Zkz {l:List Int} {k:Nat} (h:k<l.length):l.take (k + 1)=l.take k++[l[k]]:=by
 rw [List.take_add_one,List.getElem?_eq_getElem h]; rfl
theorem Zl4 {p:List Int→Prop} (h0:p []) (h1:∀ l x,p l→p (l++[x])) (l:List Int):p l:=by
 have key:∀ n (l:List Int),l.length=n→p l:=by
  intro n
  induction n with
  | zero=>intro l hl; rw [List.length_eq_zero_iff.1 hl]; exact h0
  | succ n ih=>
   intro l hl
   rcases List.eq_nil_or_concat l with rfl | ⟨m,x,rfl⟩
   ·exact h0
   ·rw [List.concat_eq_append] at hl ⊢
    exact h1 _ _ (ih m (by simpa using hl))
 exact key _ l rfl
theorem Zq9 (l:List Int):(dd l).getLast? = l.getLast?:=by
 refine Zl4 (p:=fun l=>(dd l).getLast? = l.getLast?) rfl (fun l x ih=>?_) l
 rw [Zls]
 split
 ·rename_i h; rw [h]; simp
 ·simp
theorem dd_mem (l:List Int) (z:Int):z∈dd l ↔ z∈l:=by
 refine Zl4 (p:=fun l=>z∈dd l ↔ z∈l) (Iff.rfl) (fun l x ih=>?_) l
 rw [Zls]
 split
 ·rename_i h
  have hx:=List.mem_of_getLast? h
  rw [List.mem_append,← ih,List.mem_singleton]
  exact⟨Or.inl,fun h=>h.elim id fun e=>e ▸ hx⟩
 ·rw [List.mem_append,List.mem_append,ih]
theorem dd_len (l:List Int):(dd l).length≤l.length:=by
 refine Zl4 (p:=fun l=>(dd l).length≤l.length) (Nat.le_refl _) (fun l x ih=>?_) l
 rw [Zls]
 split <;> simp <;> omega
theorem Zv7 (l:List Int):l.Pairwise (·≤·)→(dd l).Pairwise (·<·):=by
 refine Zl4 (p:=fun l=>l.Pairwise (·≤·)→(dd l).Pairwise (·<·)) (fun _=>List.Pairwise.nil) (fun l x ih hp=>?_) l
 rw [List.pairwise_append] at hp
 obtain⟨h1,_,h3⟩:=hp
 have hd:=ih h1
 rw [Zls]
 split
 ·exact hd
 ·rename_i hne
  rw [List.pairwise_append]
  refine⟨hd,List.pairwise_singleton _ _,fun a ha b hb=>?_⟩
  rw [List.mem_singleton] at hb
  subst hb
  have hle:=h3 a ((dd_mem l a).1 ha) b (List.mem_singleton.2 rfl)
  rcases Int.lt_or_eq_of_le hle with h | h
  ·exact h
  ·exfalso
   subst h
   rw [Zq9] at hne
   cases hl:l.getLast? with
   | none=>rw [List.getLast?_eq_none_iff] at hl; subst hl; simp [dd] at ha
   | some z=>
    have hz:z∈dd l:=(dd_mem l z).2 (List.mem_of_getLast? hl)
    have hza:=h3 z (List.mem_of_getLast? hl) a (List.mem_singleton.2 rfl)
    have hlast:(dd l).getLast? = some z:=by rw [Zq9,hl]
    have hle2:a≤z:=by
     obtain⟨m,hm⟩:=List.getLast?_eq_some_iff.1 hlast
     rw [hm] at ha hd
     rw [List.mem_append] at ha
     rcases ha with ha | ha
     ·rw [List.pairwise_append] at hd
      exact Int.le_of_lt (hd.2.2 a ha z (List.mem_singleton.2 rfl))
     ·rw [List.mem_singleton] at ha; omega
    have:z=a:=by omega
    subst this
    exact hne hl
theorem Zng {l:List Int} {n i:Nat} (hn:l.length=n) (h:i<n):idxn n l (i:Int)=some (l[i]'(by omega)):=by
 unfold idxn
 rw [if_pos ⟨by omega,by omega⟩,Zbh (by omega)]
theorem Zur {l:List Int} {k:Nat} (h0:0<k) (h:k<l.length):dd (l.take (k + 1))=if l[k - 1]=l[k] then dd (l.take k) else dd (l.take k)++[l[k]]:=by
 rw [Zkz h,Zls,Zq9]
 have:(l.take k).getLast? = some (l[k - 1]):=by
  obtain⟨k,rfl⟩:∃ k',k=k' + 1:=⟨k - 1,by omega⟩
  rw [Zkz (by omega),List.getLast?_append]; simp
 rw [this]
 simp only [Option.some.injEq]
theorem Zw2 {l:List Int} {n v1:Nat} (hn:l.length=n) (hB:n≤1000000) (h1:0<v1) (hv:v1<n):∀(k i w m:Nat) (v:List Int),v.length=n→n - (v1 + i)=k→k<m→0<i→v1 + i≤n→w≤v1 + i - 1 →
  v.take w=dd (l.take (v1 + i))→v.drop (v1 + i - 1)=l.drop (v1 + i - 1) →
  ∃ v' w',Za2 n (v1:Int) m v (w:Int) (i:Int)=some (v',((w':Nat):Int))∧v'.length=n∧w'≤n∧v'.take w'=dd l:=by
 intro k
 induction k with
 | zero=>
  intro i w m v hl hk hm hi hle hw ht hdr
  cases m with
  | zero=>omega
  | succ m=>
  rw [Za2]
  simp only [Int.toNat_natCast]
  rw [if_neg (by simp; omega)]
  refine⟨v,w,rfl,hl,by omega,?_⟩
  rw [ht,List.take_of_length_le (by omega)]
 | succ k ih=>
  intro i w m v hl hk hm hi hle hw ht hdr
  cases m with
  | zero=>omega
  | succ m=>
  have gt:∀ q,v1 + i - 1≤q→(hq:q<n)→v[q]'(by omega)=l[q]'(by omega):=fun q hq1 hq=>by
   have h2:(v.drop (v1 + i - 1))[q - (v1 + i - 1)]? = (l.drop (v1 + i - 1))[q - (v1 + i - 1)]?:=by rw [hdr]
   rw [List.getElem?_drop,List.getElem?_drop,show v1 + i - 1 + (q - (v1 + i - 1))=q by omega,List.getElem?_eq_getElem (by omega),List.getElem?_eq_getElem (by omega)] at h2
   exact Option.some.inj h2
  have iv:∀ q:Nat,(hq:v1 + q<n)→idxv (n - v1) v (v1:Int) (q:Int)=some (v[v1 + q]'(by omega)):=fun q hq=>by
   unfold idxv
   rw [if_pos ⟨by omega,by omega⟩,show (v1:Int) + (q:Int)=((v1 + q:Nat):Int) by omega,Zbh (by omega)]
  have hx:=gt (v1 + i) (by omega) (by omega)
  have hy:=gt (v1 + i - 1) (Nat.le_refl _) (by omega)
  obtain⟨i',rfl⟩:∃ i',i=i' + 1:=⟨i - 1,by omega⟩
  have hy':v[v1 + i']'(by omega)=l[v1 + i']'(by omega):=hy
  have ds:=Zur (l:=l) (k:=v1 + (i' + 1)) (by omega) (by omega)
  rw [Za2]
  simp only [Int.toNat_natCast]
  rw [if_pos (decide_eq_true (by omega)),iv (i' + 1) (by omega),wpred (by omega),iv i' (by omega)]
  simp only [Option.bind_some,hx,hy']
  simp only [show v1 + (i' + 1) - 1=v1 + i' by omega] at ds
  by_cases he:l[v1 + (i' + 1)]'(by omega)=l[v1 + i']'(by omega)
  ·rw [if_neg (by simp [he])]
   simp only [Option.bind_some]
   rw [wsuc (by omega)]
   refine ih (i' + 1 + 1) w m v hl (by omega) (by omega) (by omega) (by omega) (by omega) ?_ ?_
   ·rw [ht,show v1 + (i' + 1 + 1)=v1 + (i' + 1) + 1 by omega,ds,if_pos he.symm]
   ·rw [show v1 + (i' + 1 + 1) - 1=(v1 + (i' + 1) - 1) + 1 by omega,← List.drop_drop,← List.drop_drop,hdr]
  ·rw [if_pos (by simpa using he),Zng hl (show w<n by omega)]
   simp only [Option.bind_some]
   rw [wsuc (by omega),wsuc (by omega)]
   refine ih (i' + 1 + 1) (w + 1) m _ (by rw [List.length_set,hl]) (by omega) (by omega) (by omega) (by omega) (by omega) ?_ ?_
   ·rw [show v1 + (i' + 1 + 1)=v1 + (i' + 1) + 1 by omega,ds,if_neg (fun h=>he h.symm),← ht]
    rw [Zkz (by rw [List.length_set]; omega),List.getElem_set_self,List.take_set_of_le (Nat.le_refl _)]
   ·rw [show v1 + (i' + 1 + 1) - 1=v1 + (i' + 1) by omega,List.drop_set_of_lt (by omega)]
    rw [show v1 + (i' + 1)=(v1 + (i' + 1) - 1) + 1 by omega,← List.drop_drop,← List.drop_drop,hdr]
theorem Zw3 {l:List Int} {n:Nat} (hn:l.length=n) (hB:n≤1000000):∀(k i m:Nat),n - i=k→k<m→0<i→i≤n→dd (l.take i)=l.take i →
  ∃ o,Za3 n l m (i:Int)=some o∧((o=.inl ()∧dd l=l)∨∃ w v,o=.inr (w,v)∧v.length=n∧w≤n∧v.take w=dd l):=by
 intro k
 induction k with
 | zero=>
  intro i m hk hm h0 hi hd
  cases m with
  | zero=>omega
  | succ m=>
  rw [Za3,if_neg (by simp; omega)]
  rw [List.take_of_length_le (by omega)] at hd
  exact⟨_,rfl,Or.inl ⟨rfl,hd⟩⟩
 | succ k ih=>
  intro i m hk hm h0 hi hd
  cases m with
  | zero=>omega
  | succ m=>
  have ds:=Zur (l:=l) h0 (by omega)
  rw [Za3,if_pos (decide_eq_true (by omega)),Zng hn (show i<n by omega)]
  obtain⟨i',rfl⟩:∃ i',i=i' + 1:=⟨i - 1,by omega⟩
  rw [wpred (by omega),Zng hn (show i'<n by omega)]
  simp only [Option.bind_some,Nat.add_sub_cancel] at ds ⊢
  by_cases he:l[i' + 1]'(by omega)=l[i']'(by omega)
  ·rw [if_pos (by simpa using he),if_pos ⟨by omega,by omega,by omega⟩]
   obtain⟨v,w,e,g1,g2,g3⟩:=Zw2 hn hB (show 0<i' + 1 by omega) (by omega) (n - (i' + 1 + 1)) 1 (i' + 1) fuel l hn rfl (by unfold fuel; omega) (by omega) (by omega) (by omega) (by rw [ds,if_pos he.symm,hd]) rfl
   rw [show ((1:Nat):Int)=1 from rfl] at e
   rw [e]
   simp only [Option.bind_some,Int.toNat_natCast]
   rw [if_pos ⟨by omega,by omega,by omega⟩,if_pos (by omega),if_pos ⟨by omega,by omega,by omega⟩]
   refine⟨_,rfl,Or.inr ⟨w,_,rfl,?_,g2,?_⟩⟩
   ·simp only [List.length_append,List.length_take,List.length_replicate,List.length_drop]; omega
   ·rw [List.append_assoc,List.take_append_of_le_length (by rw [List.length_take]; omega),List.take_take,Nat.min_self,g3]
  ·rw [if_neg (by simpa using he),wsuc (by omega)]
   refine ih (i' + 1 + 1) m (by omega) (by omega) (by omega) (by omega) ?_
   rw [ds,if_neg (fun h=>he h.symm),hd,← Zkz]
theorem Zvh {l:List Int} (hB:l.length≤1000000):∃ w v,Zck l.length l=some (w,v)∧v.length=l.length∧w≤l.length∧v.take w=dd l:=by
 unfold Zck
 by_cases h:l.length<2
 ·rw [if_pos (decide_eq_true (by omega))]
  refine⟨_,_,rfl,rfl,Nat.le_refl _,?_⟩
  rw [List.take_length]
  rcases l with _ | ⟨a,_ | ⟨b,l⟩⟩
  ·rfl
  ·rfl
  ·simp at h; omega
 ·rw [if_neg (by simp; omega)]
  have h1:dd (l.take 1)=l.take 1:=by
   rcases l with _ | ⟨a,l⟩
   ·rfl
   ·rfl
  obtain⟨o,e,ho⟩:=Zw3 rfl hB (l.length - 1) 1 fuel rfl (by unfold fuel; omega) (by omega) (by omega) h1
  rw [show ((1:Nat):Int)=1 from rfl] at e
  rw [e]
  rcases ho with ⟨rfl,hd⟩ | ⟨w,v,rfl,g1,g2,g3⟩
  ·exact⟨_,_,rfl,rfl,Nat.le_refl _,by rw [List.take_length,hd]⟩
  ·exact⟨w,v,rfl,g1,g2,g3⟩
end Go.AM
set_option maxRecDepth 100000
namespace Go.AM
open Go
def hv (h:Zm):Arr5 Int:=⟨h.Src,h.Dst,h.Proto,h.SrcPort,h.DstPort⟩
theorem Zpe {h:Zm} (hh:Zaw h):Ze6 h=some (hv h):=by
 obtain⟨h1,h2,h3,h4,h5,_⟩:=hh
 unfold ok_u8 at h3; unfold Zho at h4 h5
 simp only [Ze6,hv]
 rw [wu32 (x:=h.Proto) (by omega) (by omega),wu32 (x:=h.SrcPort) (by omega) (by omega),wu32 (x:=h.DstPort) (by omega) (by omega)]
theorem Znh {h:Zm} (hh:Zaw h):Zgj h=some (hv h):=Zpe hh
def outB (b:Arr5 Zb) (v:Arr5 Int) (k:Int):Bool:=decide (v.get k<(b.get k).Lo) || decide (v.get k > (b.get k).Hi)
def allF (f:Int→Bool):Bool:=!(f 0 || f 1 || f 2 || f 3 || f 4)
def cB (b:Arr5 Zb) (h:Zm):Bool:=vB b && allF (outB b (hv h))
theorem cstep1 (b:Arr5 Zb) (v:Arr5 Int) (n:Nat) (k:Int) (h0:0≤k) (h1:k<5):Zc9 b v (n + 1) k=if outB b v k=true then some (.inr false) else Zc9 b v n (k + 1):=by
 rw [Zc9]
 simp only [show k<5 from h1,decide_true,if_true,show 0≤k∧k<5 from ⟨h0,h1⟩,and_self,Option.bind_some,wnext h0 (by omega:k<1000000)]
 unfold outB
 cases decide (v.get k<(b.get k).Lo) <;> simp
theorem cstep2 (b:Arr5 Zb) (v:Arr5 Int) (n:Nat) (k:Int) (h0:0≤k) (h1:k<5):Zcc b v (n + 1) k=if outB b v k=true then some (.inr false) else Zcc b v n (k + 1):=by
 rw [Zcc]
 simp only [show k<5 from h1,decide_true,if_true,show 0≤k∧k<5 from ⟨h0,h1⟩,and_self,Option.bind_some,wnext h0 (by omega:k<1000000)]
 unfold outB
 cases decide (v.get k<(b.get k).Lo) <;> simp
theorem Zt7 {h:Zm} (hh:Zaw h) (b:Arr5 Zb):Zgk b h=some (cB b h):=by
 unfold Zgk cB
 rw [Zkj,Znh hh]
 simp only [Option.bind_some]
 rw [Zm9 (bad:=outB b (hv h)) (cstep1 b (hv h)) (fun n=>by rw [Zc9]; rfl)]
 cases vB b
 ·rfl
 ·unfold allF
  cases (outB b (hv h) 0 || outB b (hv h) 1 || outB b (hv h) 2 || outB b (hv h) 3 || outB b (hv h) 4) <;> rfl
theorem Zs8 {h:Zm} (hh:Zaw h) (b:Arr5 Zb):Ze0 b h=some (cB b h):=by
 unfold Ze0 cB
 rw [Zpe hh]
 simp only [Option.bind_some]
 rw [Zm9 (bad:=outB b (hv h)) (cstep2 b (hv h)) (fun n=>by rw [Zcc]; rfl),Zv1]
 unfold allF
 cases (outB b (hv h) 0 || outB b (hv h) 1 || outB b (hv h) 2 || outB b (hv h) 3 || outB b (hv h) 4) <;> cases vB b <;> rfl
def difM (m:Zk) (k:Int):Bool:=(IntKind.wrap .u32 ((m.From.get k).Hi - (m.From.get k).Lo)) != (IntKind.wrap .u32 ((m.To.get k).Hi - (m.To.get k).Lo))
def vM (m:Zk):Bool:=vB m.From && vB m.To && allF (difM m)
theorem Zis (m:Zk):Zcr m=some (vM m):=by
 unfold Zcr vM
 rw [Zkj,Zkj,Zm9 (L:=Zcp m) (bad:=difM m) (fun n k h0 h1=>by
  rw [Zcp]
  simp only [show k<5 from h1,decide_true,if_true,show 0≤k∧k<5 from ⟨h0,h1⟩,and_self,wnext h0 (by omega:k<1000000)]
  rfl) (fun n=>by rw [Zcp]; rfl)]
 unfold allF
 cases vB m.From <;> cases vB m.To <;> cases (difM m 0 || difM m 1 || difM m 2 || difM m 3 || difM m 4) <;> rfl
def gM (h:Zm) (i:Nat) (m:Zk):Option Int:=if (vM m && cB m.From h)=true then some (i:Int) else none
def orN (o:Option Int):Int:=match o with | some r=>r | none=>-1
def mM (l:List Zk) (h:Zm):Int:=orN (findI (gM h) 0 l)
theorem Zw4 {h:Zm} (hh:Zaw h) {l:List Zk} (hl:l.length≤1000000000000):Zf2 l h=some (mM l h):=by
 have h1:∀ m:Zk,Zfe m h=some (vM m && cB m.From h):=fun m=>by
  unfold Zfe
  rw [Zis,Zt7 hh]
  cases vM m <;> rfl
 unfold Zf2 Zbi mM
 rw [Zjm (L:=Z4 l h) l (gM h) hl (fun n i hi=>by
  rw [Z4]
  simp only [show ((i:Int)<(l.length:Int)) from by omega,decide_true,if_true,Zbh hi,Option.bind_some,h1,wsucc (by omega:i<1000000000001)]
  unfold gM
  cases (vM l[i] && cB l[i].From h) <;> rfl) (fun n=>by rw [Z4]; simp)]
 cases findI (gM h) 0 l <;> rfl
theorem Zql {α ρ:Type} (g:Nat→α→Option ρ):∀(l:List α) (i:Nat) (r:ρ),findI g i l=some r→∃(j:Nat) (h:j<l.length),g (i + j) l[j]=some r
 | [],_,_,h=>by simp [findI] at h
 | x :: xs,i,r,h=>by
  simp only [findI] at h
  split at h
  ·rename_i r' hg
   simp only [Option.some.injEq] at h
   subst h
   exact⟨0,by simp,by simpa using hg⟩
  ·obtain⟨j,hj,hg⟩:=Zql g xs (i + 1) r h
   exact⟨j + 1,by simpa using hj,by simp only [List.getElem_cons_succ]; rw [← hg]; congr 1; omega⟩
theorem Zx2 {l:List Zk} {h:Zm} (hm:¬ mM l h<0):∃(j:Nat) (hj:j<l.length),mM l h=(j:Int)∧vM l[j]=true∧cB l[j].From h=true:=by
 unfold mM at hm ⊢
 cases hf:findI (gM h) 0 l with
 | none=>rw [hf] at hm; exact absurd (by decide) hm
 | some r=>
  obtain⟨j,hj,hg⟩:=Zql _ _ _ _ hf
  unfold gM at hg
  split at hg
  ·rename_i hc
   simp only [Option.some.injEq] at hg
   simp only [Bool.and_eq_true] at hc
   exact⟨j,hj,by rw [← hg]; simp [orN],hc.1,hc.2⟩
  ·cases hg
end Go.AM
set_option maxRecDepth 100000
namespace Go.AM
open Go
def hdr (v:Arr5 Int):Zm:=⟨v.x0,v.x1,v.x2,v.x3,v.x4⟩
structure VOk (v:Arr5 Int):Prop where
 h0:0≤v.x0∧v.x0≤4294967295
 h1:0≤v.x1∧v.x1≤4294967295
 h2:0≤v.x2∧v.x2≤255
 h3:0≤v.x3∧v.x3≤65535
 h4:0≤v.x4∧v.x4≤65535
theorem wu8 {x:Int} (h0:0≤x) (h1:x<256):IntKind.wrap .u8 x=x:=by
 rw [wrap_u .u8 8 rfl rfl]; omega
theorem wu16 {x:Int} (h0:0≤x) (h1:x<65536):IntKind.wrap .u16 x=x:=by
 rw [wrap_u .u16 16 rfl rfl]; omega
theorem hv_ok {h:Zm} (hh:Zaw h):VOk (hv h):=by
 obtain⟨h1,h2,h3,h4,h5,_⟩:=hh
 unfold Zif at h1 h2; unfold ok_u8 at h3; unfold Zho at h4 h5
 exact⟨⟨h1.1,by simp only [hv]; omega⟩,⟨h2.1,by simp only [hv]; omega⟩,⟨h3.1,by simp only [hv]; omega⟩,⟨h4.1,by simp only [hv]; omega⟩,⟨h5.1,by simp only [hv]; omega⟩⟩
theorem hdr_ok {v:Arr5 Int} (h:VOk v):Zaw (hdr v):=by
 obtain⟨h0,h1,h2,h3,h4⟩:=h
 refine⟨?_,?_,?_,?_,?_,trivial⟩
 ·unfold Zif; simp only [hdr]; omega
 ·unfold Zif; simp only [hdr]; omega
 ·unfold ok_u8; simp only [hdr]; omega
 ·unfold Zho; simp only [hdr]; omega
 ·unfold Zho; simp only [hdr]; omega
theorem hdr_hv (h:Zm):hdr (hv h)=h:=rfl
theorem hv_hdr (v:Arr5 Int):hv (hdr v)=v:=rfl
theorem Zru {v:Arr5 Int} (h:VOk v):Zgy v=some (hdr v):=by
 obtain⟨h0,h1,h2,h3,h4⟩:=h
 simp only [Zgy,hdr]
 rw [wu8 h2.1 (by omega),wu16 h3.1 (by omega),wu16 h4.1 (by omega)]
theorem Zvi {v:Arr5 Int} (h:VOk v):Zfn v=some (hdr v):=Zru h
theorem VOk.set {v:Arr5 Int} (h:VOk v) {k x:Int} (h0:0≤k) (h1:k<5) (hx0:0≤x) (hx:x≤topOf k):VOk (v.set k x):=by
 obtain⟨g0,g1,g2,g3,g4⟩:=h
 rcases five h0 h1 with rfl | rfl | rfl | rfl | rfl
 ·exact⟨⟨hx0,hx⟩,g1,g2,g3,g4⟩
 ·exact⟨g0,⟨hx0,hx⟩,g2,g3,g4⟩
 ·exact⟨g0,g1,⟨hx0,hx⟩,g3,g4⟩
 ·exact⟨g0,g1,g2,⟨hx0,hx⟩,g4⟩
 ·exact⟨g0,g1,g2,g3,⟨hx0,hx⟩⟩
theorem VOk.get {v:Arr5 Int} (h:VOk v) {k:Int} (h0:0≤k) (h1:k<5):0≤v.get k∧v.get k≤topOf k:=by
 obtain⟨g0,g1,g2,g3,g4⟩:=h
 rcases five h0 h1 with rfl | rfl | rfl | rfl | rfl
 ·exact g0
 ·exact g1
 ·exact g2
 ·exact g3
 ·exact g4
theorem Zw5 {h:Zm} (hh:Zaw h) {k:Int} (h0:0≤k) (h1:k<5):Zhp h k=some ((hv h).get k):=by
 unfold Zhp
 rw [Znh hh]
 simp [show ¬ k<0 by omega,show ¬ k ≥ 5 by omega,h0,h1]
theorem Zx3 {v:Arr5 Int} (hh:VOk v) {k x:Int} (h0:0≤k) (h1:k<5) (hx0:0≤x) (hx:x≤topOf k):Zii (hdr v) k x=some (hdr (v.set k x)):=by
 unfold Zii
 rw [Znh (hdr_ok hh),hv_hdr]
 simp only [show ¬ k<0 by omega,show ¬ k ≥ 5 by omega,decide_false,Bool.or_self,Option.bind_some,Bool.false_eq_true,if_false,Zs3 h0 h1,show ¬ x > topOf k by omega]
 rw [if_pos (show 0≤k∧k<5 from ⟨h0,h1⟩)]
 simp only [Option.bind_some,Bool.false_eq_true,if_false]
 rw [if_pos (show 0≤k∧k<5 from ⟨h0,h1⟩),Zru (hh.set h0 h1 hx0 hx)]
 rfl
theorem vB_get {b:Arr5 Zb} (h:BIn b) (hv:vB b=true) {k:Int} (h0:0≤k) (h1:k<5):0≤(b.get k).Lo∧(b.get k).Lo≤(b.get k).Hi∧(b.get k).Hi≤topOf k:=by
 obtain⟨g0,g1,g2,g3,g4⟩:=vB_ok h hv
 rcases five h0 h1 with rfl | rfl | rfl | rfl | rfl
 ·exact⟨g0.h0,g0.h1,g0.h2⟩
 ·exact⟨g1.h0,g1.h1,g1.h2⟩
 ·exact⟨g2.h0,g2.h1,g2.h2⟩
 ·exact⟨g3.h0,g3.h1,g3.h2⟩
 ·exact⟨g4.h0,g4.h1,g4.h2⟩
structure MIn (m:Zk):Prop where
 f:BIn m.From
 t:BIn m.To
theorem Zpf {f:Int→Bool} (h:allF f=true) {k:Int} (h0:0≤k) (h1:k<5):f k=false:=by
 unfold allF at h
 simp only [Bool.not_eq_true',Bool.or_eq_false_iff] at h
 obtain⟨⟨⟨⟨g0,g1⟩,g2⟩,g3⟩,g4⟩:=h
 rcases five h0 h1 with rfl | rfl | rfl | rfl | rfl <;> assumption
theorem Zl5 {k:Int} (h0:0≤k) (h1:k<5):0≤topOf k∧topOf k≤4294967295:=by
 rcases five h0 h1 with rfl | rfl | rfl | rfl | rfl <;> decide
def to1 (m:Zk) (v:Arr5 Int) (k:Int):Int:=v.get k - (m.From.get k).Lo + (m.To.get k).Lo
theorem to1_ok {m:Zk} (hm:MIn m) (hv':vM m=true) {h:Zm} (hc:cB m.From h=true) {k:Int} (h0:0≤k) (h1:k<5) :
  0≤to1 m (hv h) k∧to1 m (hv h) k≤topOf k∧IntKind.wrap .u32 ((hv h).get k - (m.From.get k).Lo)=(hv h).get k - (m.From.get k).Lo∧IntKind.wrap .u32 ((m.To.get k).Lo + ((hv h).get k - (m.From.get k).Lo))=to1 m (hv h) k ∧
  (m.From.get k).Lo≤(hv h).get k∧(hv h).get k≤(m.From.get k).Hi∧(m.To.get k).Lo≤to1 m (hv h) k∧to1 m (hv h) k≤(m.To.get k).Hi∧(m.From.get k).Hi - (m.From.get k).Lo=(m.To.get k).Hi - (m.To.get k).Lo:=by
 unfold vM at hv'
 simp only [Bool.and_eq_true] at hv'
 obtain⟨⟨v1,v2⟩,v3⟩:=hv'
 obtain⟨a1,a2,a3⟩:=vB_get hm.f v1 h0 h1
 obtain⟨b1,b2,b3⟩:=vB_get hm.t v2 h0 h1
 obtain⟨t1,t2⟩:=Zl5 h0 h1
 have hd:=Zpf v3 h0 h1
 unfold difM at hd
 rw [wu32 (x:=(m.From.get k).Hi - (m.From.get k).Lo) (by omega) (by omega),wu32 (x:=(m.To.get k).Hi - (m.To.get k).Lo) (by omega) (by omega)] at hd
 simp only [bne_eq_false_iff_eq] at hd
 unfold cB at hc
 simp only [Bool.and_eq_true] at hc
 have ho:=Zpf hc.2 h0 h1
 unfold outB at ho
 simp only [Bool.or_eq_false_iff,decide_eq_false_iff_not] at ho
 unfold to1
 refine⟨by omega,by omega,wu32 (by omega) (by omega),?_,by omega,by omega,by omega,by omega,hd⟩
 rw [wu32 (by omega) (by omega)]; omega
def toV (m:Zk) (v:Arr5 Int):Arr5 Int:=⟨to1 m v 0,to1 m v 1,to1 m v 2,to1 m v 3,to1 m v 4⟩
def aM (l:List Zk) (h:Zm):Zm:=match l[(mM l h).toNat]? with
 | some m=>if mM l h<0 then h else hdr (toV m (hv h))
 | none=>h
theorem aM_neg {l:List Zk} {h:Zm} (hm:mM l h<0):aM l h=h:=by
 unfold aM
 split
 ·rw [if_pos hm]
 ·rfl
theorem Zs9 {h:Zm} (hh:Zaw h) {l:List Zk} (hin:∀ m∈l,MIn m) (hl:l.length≤1000000000000):Ze4 l h=some (aM l h):=by
 unfold Ze4
 rw [Zw4 hh hl]
 simp only [Option.bind_some]
 by_cases hm:mM l h<0
 ·rw [aM_neg hm,if_pos (decide_eq_true hm)]
 ·rw [if_neg (by simpa using hm)]
  obtain⟨j,hj,e,g1,g2⟩:=Zx2 hm
  have hmi:=hin _ (List.getElem_mem hj)
  have ht:=fun(k:Int) h0 h1=>to1_ok hmi g1 g2 (k:=k) h0 h1
  have st:∀ n (v:Arr5 Int) (k:Int),0≤k→k<5→VOk v→Zci l h (j:Int) l[j] (n + 1) (hdr v) k=Zci l h (j:Int) l[j] n (hdr (v.set k (to1 l[j] (hv h) k))) (k + 1):=fun n v k h0 h1 hv=>by
   obtain⟨q1,q2,q3,q4,_⟩:=ht k h0 h1
   rw [Zci]
   simp only [show k<5 from h1,decide_true,if_true,show 0≤k∧k<5 from ⟨h0,h1⟩,and_self,Zbh hj,Option.bind_some,wnext h0 (by omega:k<1000000),Zw5 hh h0 h1,q3,q4,Zx3 hv h0 h1 q1 q2]
  unfold aM
  rw [e]
  simp only [Zbh hj,Option.bind_some,Int.toNat_natCast,List.getElem?_eq_getElem hj]
  rw [if_neg (by omega)]
  have v0:=hv_ok hh
  have s1:=fun(v:Arr5 Int) (hv:VOk v) (k:Int) h0 h1=>hv.set h0 h1 (ht k h0 h1).1 (ht k h0 h1).2.1
  have w1:=s1 _ v0 0 (by decide) (by decide)
  have w2:=s1 _ w1 1 (by decide) (by decide)
  have w3:=s1 _ w2 2 (by decide) (by decide)
  have w4:=s1 _ w3 3 (by decide) (by decide)
  rw [fuel6]
  have chain:Zci l h (j:Int) l[j] (1180591620717411303418 + 6) (hdr (hv h)) 0=_:=
   (st (1180591620717411303418 + 5) _ 0 (by decide) (by decide) v0).trans ((st (1180591620717411303418 + 4) _ 1 (by decide) (by decide) w1).trans ((st (1180591620717411303418 + 3) _ 2 (by decide) (by decide) w2).trans ((st (1180591620717411303418 + 2) _ 3 (by decide) (by decide) w3).trans (st (1180591620717411303418 + 1) _ 4 (by decide) (by decide) w4))))
  rw [hdr_hv] at chain
  rw [chain]
  rw [Zci]
  rfl
def ofB (v:Arr5 Int):Arr5 Zb:=⟨⟨v.x0,v.x0⟩,⟨v.x1,v.x1⟩,⟨v.x2,v.x2⟩,⟨v.x3,v.x3⟩,⟨v.x4,v.x4⟩⟩
theorem rOf_eq {h:Zm} (hh:Zaw h):Zgz h=some (ofB (hv h)):=by
 unfold Zgz
 rw [Zpe hh]
 simp only [Option.bind_some]
 rw [Zv2 (L:=Zej (hv h)) (f:=fun s k=>Arr5.set s k ⟨(hv h).get k,(hv h).get k⟩) (fin:=id) (fun n s k h0 h1=>by
  rw [Zej]
  simp only [show k<5 from h1,decide_true,if_true,show 0≤k∧k<5 from ⟨h0,h1⟩,and_self,wnext h0 (by omega:k<1000000)]) (fun n s=>by rw [Zej]; rfl)]
 rfl
def shr (a f t:Zb):Zb:=⟨IntKind.wrap .u32 (IntKind.wrap .u32 (a.Lo - f.Lo) + t.Lo),IntKind.wrap .u32 (IntKind.wrap .u32 (a.Hi - f.Lo) + t.Lo)⟩
def shB (a f t:Arr5 Zb):Arr5 Zb:=⟨shr a.x0 f.x0 t.x0,shr a.x1 f.x1 t.x1,shr a.x2 f.x2 t.x2,shr a.x3 f.x3 t.x3,shr a.x4 f.x4 t.x4⟩
end Go.AM
set_option maxRecDepth 100000
namespace Go.AM
open Go
abbrev Bx:=Arr5 Zb
def toL (b:Bx):List Zb:=[b.x0,b.x1,b.x2,b.x3,b.x4]
def sf (f:Nat) (b:Bx):List Zb:=(toL b).drop f
def zr:Zb:=⟨0,0⟩
def ofL:List Zb→Bx
 | [a,b,c,d,e]=>⟨a,b,c,d,e⟩
 | _=>⟨zr,zr,zr,zr,zr⟩
def pad (f:Nat) (l:List Zb):Bx:=ofL (List.replicate f zr++l)
def tops5:List Int:=[4294967295,4294967295,255,65535,65535]
theorem fiveN {f:Nat} (h:f<5):f=0∨f=1∨f=2∨f=3∨f=4:=by omega
theorem Znt {f:Nat} (h:f<5) (b:Bx):sf f b=b.get (f:Int) :: sf (f + 1) b:=by
 rcases fiveN h with rfl | rfl | rfl | rfl | rfl <;> rfl
theorem sf_len {f:Nat} (h:f≤5) (b:Bx):(sf f b).length=5 - f:=by unfold sf toL; rw [List.length_drop]; rfl
theorem Zrv {f:Nat} (h:f<5):tops5.drop f=topOf (f:Int) :: tops5.drop (f + 1):=by
 rcases fiveN h with rfl | rfl | rfl | rfl | rfl <;> rfl
theorem len4 {l:List Zb} {n:Nat} (h:l.length=n):match n with
  | 0=>l=[]
  | 1=>∃ a,l=[a]
  | 2=>∃ a b,l=[a,b]
  | 3=>∃ a b c,l=[a,b,c]
  | 4=>∃ a b c d,l=[a,b,c,d]
  | 5=>∃ a b c d e,l=[a,b,c,d,e]
  | _=>True:=by
 subst h
 rcases l with _ | ⟨a,_ | ⟨b,_ | ⟨c,_ | ⟨d,_ | ⟨e,_ | ⟨g,l⟩⟩⟩⟩⟩⟩
 ·exact rfl
 ·exact⟨_,rfl⟩
 ·exact⟨_,_,rfl⟩
 ·exact⟨_,_,_,rfl⟩
 ·exact⟨_,_,_,_,rfl⟩
 ·exact⟨_,_,_,_,_,rfl⟩
 ·exact trivial
theorem Zx4 {f:Nat} (h:f<5) {l:List Zb} (hl:l.length=4 - f) (r:Zb):(pad (f + 1) l).set (f:Int) r=pad f (r :: l):=by
 have h1:=len4 hl
 rcases fiveN h with rfl | rfl | rfl | rfl | rfl
 ·obtain⟨a,b,c,d,rfl⟩:=h1; rfl
 ·obtain⟨a,b,c,rfl⟩:=h1; rfl
 ·obtain⟨a,b,rfl⟩:=h1; rfl
 ·obtain⟨a,rfl⟩:=h1; rfl
 ·cases h1; rfl
theorem Zus {l:List Zb} (h:l.length=5):toL (ofL l)=l:=by
 obtain⟨a,b,c,d,e,rfl⟩:=len4 h
 rfl
theorem Znu (b:Bx):ofL (toL b)=b:=rfl
theorem sf_pad {f:Nat} (h:f≤5) {l:List Zb} (hl:l.length=5 - f):sf f (pad f l)=l:=by
 unfold sf pad
 rw [Zus (by simp; omega),List.drop_left' (by simp)]
theorem Zx5 {b b':Bx} (h:toL b=toL b'):b=b':=by rw [← Znu b,h,Znu]
instance decBx:DecidableEq Bx:=fun a b=>if h:toL a=toL b then .isTrue (Zx5 h) else .isFalse fun e=>h (by rw [e])
theorem eq_rg (a b:Zb):Zed a b=decide (a=b):=by
 obtain⟨a1,a2⟩:=a
 obtain⟨b1,b2⟩:=b
 simp only [Zed,Bool.and_true,Zb.mk.injEq]
 rw [Bool.eq_iff_iff]; simp
theorem eq_bx (a b:Bx):Zgr a b=decide (a=b):=by
 obtain⟨a0,a1,a2,a3,a4⟩:=a
 obtain⟨b0,b1,b2,b3,b4⟩:=b
 simp only [Zgr,Bool.and_true,eq_rg,Arr5.mk.injEq]
 rw [Bool.eq_iff_iff]; simp
theorem Zta {α:Type} [DecidableEq α]:∀(l pre b:List α),l.length + pre.length=b.length→findI (fun i x=>if b[i]? = some x then none else some false) pre.length l=if l=b.drop pre.length then none else some false
 | [],pre,b,h=>by simp at h; rw [h]; simp [findI]
 | x :: l,pre,b,h=>by
  simp only [List.length_cons] at h
  have hi:pre.length<b.length:=by omega
  rw [List.drop_eq_getElem_cons hi]
  simp only [findI,List.getElem?_eq_getElem hi,List.cons.injEq,Option.some.injEq]
  by_cases e:b[pre.length]=x
  ·rw [if_pos e]
   simp only [e,true_and]
   have:=Zta l (pre++[x]) b (by simp; omega)
   simp only [List.length_append,List.length_singleton] at this
   exact this
  ·rw [if_neg e,if_neg (fun h=>e h.1.symm)]
theorem Ztb {a b:List Bx} (ha:a.length≤1000000000000):Zan a b=some (decide (a=b)):=by
 unfold Zan
 by_cases hl:a.length=b.length
 ·rw [if_neg (by simp [hl])]
  rw [Zjm (L:=Za1 a b) a (fun i x=>if b[i]? = some x then none else some false) ha (fun n i hi=>by
   have hj:i<b.length:=by omega
   rw [Za1]
   simp only [show ((i:Int)<(a.length:Int)) from by omega,decide_true,if_true,Zbh hi,Zbh hj,Option.bind_some,eq_bx,wsucc (by omega:i<1000000000001),List.getElem?_eq_getElem hj,Option.some.injEq]
   by_cases e:a[i]=b[i]
   ·simp [e]
   ·rw [if_neg (show ¬ b[i]=a[i] from fun h=>e h.symm)]; simp [e]) (fun n=>by rw [Za1]; simp)]
  have:=Zta a [] b (by simpa using hl)
  simp only [List.length_nil,List.drop_zero] at this
  rw [this]
  by_cases e:a=b
  ·simp [e,orS]
  ·simp [e,orS]
 ·rw [if_pos (by simp; omega)]
  rw [decide_eq_false (fun e=>hl (by rw [e]))]
def cov (a:List Bx) (f v:Int):List Bx:=a.filter fun b=>inR v (b.get f)
theorem Zni {α:Type} (p:α→Bool):∀(l acc:List α) (i:Nat),foldI (fun s _ x=>if p x=true then s++[x] else s) acc i l=acc++l.filter p
 | [],acc,i=>by simp [foldI]
 | x :: xs,acc,i=>by
  simp only [foldI,List.filter_cons]
  rw [Zni p xs]
  cases p x <;> simp
theorem inR_eq (v:Int) (r:Zb):inR v r=(decide (r.Lo≤v) && decide (v≤r.Hi)):=rfl
theorem Zop {a:List Bx} (ha:a.length≤2000000000) {f:Int} (h0:0≤f) (h1:f<5) (v:Int):Zbu a f v=some (cov a f v):=by
 unfold Zbu
 have:=Zfj (L:=Zcf a f v) a (fun s _ x=>if inR v (x.get f)=true then s++[x] else s) id (fun i s=>s.length≤i) (by omega) (fun n s i hi hs=>by
  rw [Zcf]
  simp only [show ((i:Int)<(a.length:Int)) from by omega,decide_true,if_true,Zbh hi,Option.bind_some,wsucc (by omega:i<1000000000001),List.length_singleton]
  rw [if_pos ⟨h0,h1⟩,inR_eq]
  rw [if_pos (show s.length + 1≤lim by unfold lim; omega)]
  cases decide (((a[i]).get f).Lo≤v) <;> cases decide (v≤((a[i]).get f).Hi) <;> simp [h0,h1] <;> omega) (fun n s hs=>by rw [Zcf]; simp) [] (Nat.le_refl _)
 rw [this.1,Zni]
 rfl
theorem Zut {f:Nat} (h:f<5) (a:List Bx) (v:Int):(cov a (f:Int) v).map (sf (f + 1))=atv (a.map (sf f)) v:=by
 induction a with
 | nil=>rfl
 | cons b a ih=>
  have e:atv ((b :: a).map (sf f)) v=(if inR v (b.get (f:Int)) then [sf (f + 1) b] else [])++atv (a.map (sf f)) v:=by
   rw [List.map_cons,Znt h]; rfl
  rw [e,← ih]
  unfold cov
  rw [List.filter_cons]
  cases inR v (b.get (f:Int)) <;> simp
theorem Zuu (a:List Bx) (f v:Int):(cov a f v).length≤a.length:=List.length_filter_le ..
theorem Zx6 {a:List Bx} {f v:Int} {b:Bx} (h:b∈cov a f v):b∈a:=(List.mem_filter.1 h).1
theorem Zrw (b:Bx):Zcs b=some (!vB b):=by
 unfold Zcs; rw [Zkj]; rfl
theorem Zpg {α:Type} {l:List α} {n i:Nat} (hn:l.length=n) (h:i<n):idxn n l (i:Int)=some (l[i]'(by omega)):=by
 unfold idxn
 rw [if_pos ⟨by omega,by omega⟩,Zbh (by omega)]
theorem Zw6 {l:List Bx} {n:Nat} (hn:l.length=n) (hB:n≤2000000000):∀(k j w m:Nat) (v:List Bx),n - j=k→k<m→v.length=n→w<j→j≤n→v.take w=(l.take j).filter vB→v.drop j=l.drop j →
  ∃ v' w',Z5 n m v (w:Int) (j:Int)=some (v',((w':Nat):Int))∧v'.length=n∧w'≤n∧v'.take w'=l.filter vB:=by
 intro k
 induction k with
 | zero=>
  intro j w m v hk hm hv hw hj ht hd
  cases m with
  | zero=>omega
  | succ m=>
  rw [Z5,if_neg (by simp; omega)]
  refine⟨v,w,rfl,hv,by omega,?_⟩
  rw [ht,List.take_of_length_le (by omega)]
 | succ k ih=>
  intro j w m v hk hm hv hw hj ht hd
  cases m with
  | zero=>omega
  | succ m=>
  have hjn:j<n:=by omega
  have hx:v[j]'(by omega)=l[j]'(by omega):=by
   have h2:(v.drop j)[0]? = (l.drop j)[0]?:=by rw [hd]
   rw [List.getElem?_drop,List.getElem?_drop,Nat.add_zero,List.getElem?_eq_getElem (by omega),List.getElem?_eq_getElem (by omega)] at h2
   exact Option.some.inj h2
  have tk:(l.take (j + 1)).filter vB=(l.take j).filter vB++if vB (l[j]'(by omega))=true then [l[j]'(by omega)] else []:=by
   rw [List.take_add_one,List.getElem?_eq_getElem (by omega),List.filter_append]
   congr 1
   simp only [Option.toList_some,List.filter_cons,List.filter_nil]
  rw [Z5]
  rw [if_pos (decide_eq_true (by omega)),Zpg hv hjn]
  simp only [Option.bind_some,Zrw,hx,Bool.not_not]
  by_cases hval:vB (l[j]'(by omega))=true
  ·rw [if_pos hval,Zpg hv (by omega:w<n)]
   simp only [Option.bind_some,Int.toNat_natCast]
   rw [wsuc (by omega),wsuc (by omega)]
   refine ih (j + 1) (w + 1) m _ (by omega) (by omega) (by rw [List.length_set]; exact hv) (by omega) (by omega) ?_ ?_
   ·rw [tk,if_pos hval,← ht,List.take_add_one,List.getElem?_eq_getElem (by rw [List.length_set]; omega),List.getElem_set_self,List.take_set_of_le (Nat.le_refl _)]
    rfl
   ·rw [List.drop_set_of_lt (by omega),← List.drop_drop,hd,List.drop_drop]
  ·rw [if_neg hval]
   simp only [Option.bind_some]
   rw [wsuc (by omega)]
   refine ih (j + 1) w m v (by omega) (by omega) hv (by omega) (by omega) ?_ ?_
   ·rw [tk,if_neg hval,List.append_nil,ht]
   ·rw [← List.drop_drop,hd,List.drop_drop]
theorem Zoq {α:Type} (p:α→Bool):∀(l:List α) (i:Nat),(findI (fun i x=>if p x=true then some ((i:Nat):Int) else none) i l=none∧∀ x∈l,p x=false) ∨
  ∃ j,findI (fun i x=>if p x=true then some ((i:Nat):Int) else none) i l=some ((i + j:Nat):Int)∧∃ h:j<l.length,p l[j]=true∧∀ x∈l.take j,p x=false
 | [],i=>Or.inl ⟨rfl,fun _ h=>(by cases h)⟩
 | x :: l,i=>by
  by_cases hx:p x=true
  ·exact Or.inr ⟨0,by simp only [findI,if_pos hx]; rfl,by simp,hx,fun _ h=>(by cases h)⟩
  ·rcases Zoq p l (i + 1) with ⟨h1,h2⟩ | ⟨j,h1,h2,h3,h4⟩
   ·refine Or.inl ⟨by simp only [findI,if_neg hx,h1],fun y hy=>?_⟩
    rcases List.mem_cons.1 hy with rfl | hy
    ·simpa using hx
    ·exact h2 y hy
   ·refine Or.inr ⟨j + 1,by simp only [findI,if_neg hx,h1]; rw [show i + 1 + j=i + (j + 1) by omega],by simp only [List.length_cons]; omega,by simpa using h3,fun y hy=>?_⟩
    rw [List.take_succ_cons] at hy
    rcases List.mem_cons.1 hy with rfl | hy
    ·simpa using hx
    ·exact h4 y hy
theorem del_eq {l:List Bx} (hB:l.length≤2000000000):∃ w v,Zau l.length l=some (w,v)∧v.length=l.length∧w≤l.length∧v.take w=l.filter vB:=by
 unfold Zau Zbn
 rw [Zjm (L:=Z6 l.length l) l (fun i x=>if (!vB x)=true then some ((i:Nat):Int) else none) (by omega) (fun n i hi=>by
  rw [Z6]
  simp only [show ((i:Int)<(l.length:Int)) from by omega,decide_true,if_true,Zpg rfl hi,Option.bind_some,Zrw,wsucc (by omega:i<1000000000001)]
  cases vB l[i] <;> rfl) (fun n=>by rw [Z6]; simp)]
 rcases Zoq (fun x=>!vB x) l 0 with ⟨h1,h2⟩ | ⟨j,h1,h2,h3,h4⟩
 ·rw [h1]
  simp only [orS,Option.bind_some]
  rw [if_pos (by decide)]
  refine⟨_,_,rfl,rfl,Nat.le_refl _,?_⟩
  rw [List.take_length,List.filter_eq_self.2 fun x hx=>by simpa using h2 x hx]
 ·rw [h1]
  simp only [orS,Option.bind_some]
  rw [if_neg (by simp),Nat.zero_add,wsuc (by omega)]
  have tk:(l.take j).filter vB=l.take j:=List.filter_eq_self.2 fun x hx=>by simpa using h4 x hx
  obtain⟨v,w,e,g1,g2,g3⟩:=Zw6 rfl hB (l.length - (j + 1)) (j + 1) j fuel l rfl (by unfold fuel; omega) rfl (by omega) (by omega) (by
   rw [List.take_add_one,List.filter_append,List.getElem?_eq_getElem h2,tk]
   have:vB l[j]=false:=by simpa using h3
   simp [this]) rfl
  rw [e]
  simp only [Option.bind_some,Int.toNat_natCast]
  rw [if_pos ⟨by omega,by omega,by omega⟩,if_pos (by omega),if_pos ⟨by omega,by omega,by omega⟩]
  refine⟨_,_,rfl,?_,g2,?_⟩
  ·simp only [List.length_append,List.length_take,List.length_replicate,List.length_drop]; omega
  ·rw [List.append_assoc,List.take_append_of_le_length (by rw [List.length_take]; omega),List.take_take,Nat.min_self,g3]
theorem Zrx {l:List Bx} (hB:l.length≤2000000000):Zel l=some (l.filter vB):=by
 unfold Zel
 rw [if_pos (by unfold lim; omega)]
 cases l with
 | nil=>rfl
 | cons b l=>
  obtain⟨w,v,e,g1,g2,g3⟩:=del_eq hB
  rw [e]
  simp only [handB,Option.bind_some]
  rw [if_pos ⟨g1,by omega⟩]
  simp only [Option.bind_some,g3]
end Go.AM
set_option maxRecDepth 100000
namespace Go.AM
open Go
theorem Zx7 {f:Nat} (h:f<5):Zkv (f:Int)=some (topOf (f:Int)):=by
 rcases fiveN h with rfl | rfl | rfl | rfl | rfl <;> rfl
theorem topN {f:Nat} (h:f<5):0≤topOf (f:Int)∧topOf (f:Int)≤4294967295:=Zl5 (by omega) (by omega)
theorem BOk.at_ {b:Bx} (h:BOk b) {f:Nat} (hf:f<5):0≤(b.get (f:Int)).Lo∧(b.get (f:Int)).Lo≤(b.get (f:Int)).Hi∧(b.get (f:Int)).Hi≤topOf (f:Int):=
 vB_get h.bin (ok_vB h) (by omega) (by omega)
structure Pts (f:Nat) (l:List Bx) (ps:List Int):Prop where
 asc:ps.Pairwise (·<·)
 h0:∃ tl,ps=0 :: tl
 hl:ps.getLast? = some (topOf (f:Int) + 1)
 cut:∀ b∈l,(b.get (f:Int)).Lo∈ps∧(b.get (f:Int)).Hi + 1∈ps
 len:ps.length≤2 * l.length + 2
theorem Zw7 {ps:List Int} (ha:ps.Pairwise (·<·)) {z:Int} (hz:z∈ps) (hb:∀ x∈ps,z≤x):∃ tl,ps=z :: tl:=by
 cases ps with
 | nil=>cases hz
 | cons p ps=>
  rcases List.mem_cons.1 hz with rfl | h
  ·exact⟨ps,rfl⟩
  ·have:=(List.pairwise_cons.1 ha).1 z h
   have:=hb p (List.mem_cons_self ..)
   omega
theorem Zw8 {ps:List Int} (ha:ps.Pairwise (·<·)) {z:Int} (hz:z∈ps) (hb:∀ x∈ps,x≤z):ps.getLast? = some z:=by
 rcases List.eq_nil_or_concat ps with rfl | ⟨qs,p,rfl⟩
 ·cases hz
 ·rw [List.concat_eq_append] at *
  rw [List.getLast?_concat]
  rcases List.mem_append.1 hz with h | h
  ·have:=(List.pairwise_append.1 ha).2.2 z h p (List.mem_singleton.2 rfl)
   have:=hb p (List.mem_append_right _ (List.mem_singleton.2 rfl))
   omega
  ·rw [List.mem_singleton] at h; rw [h]
def rawC (f:Int) (l:List Bx):List Int:=l.flatMap fun b=>[(b.get f).Lo,(b.get f).Hi + 1]
theorem Ztc (f:Int) (l:List Bx):(rawC f l).length=2 * l.length:=by
 induction l with
 | nil=>rfl
 | cons b l ih=>unfold rawC at *; rw [List.flatMap_cons,List.length_append,ih]; simp; omega
theorem Ztd {f:Nat} (hf:f<5) {l:List Bx} (hl:l.length≤400000) (hin:∀ b∈l,BOk b) (acc:List Int) (ha:acc.length≤1000000):Zct (f:Int) l fuel acc 0=some (acc++rawC f l):=by
 have:=Zfj (L:=Zct (f:Int) l) l (fun s _ x=>s++[(x.get (f:Int)).Lo,(x.get (f:Int)).Hi + 1]) id (fun i s=>s.length≤1000000 + 2 * i) (by omega) (fun n s i hi hs=>by
  have hb:=(hin _ (List.getElem_mem hi)).at_ hf
  have ht:=topN hf
  rw [Zct]
  simp only [show ((i:Int)<(l.length:Int)) from by omega,decide_true,if_true,Zbh hi,Option.bind_some,wsucc (by omega:i<1000000000001),List.length_cons,List.length_nil]
  rw [if_pos ⟨by omega,by omega⟩,if_pos ⟨by omega,by omega⟩,if_pos (show s.length + (0 + 1 + 1)≤lim by unfold lim; omega)]
  rw [wu64 (x:=((l[i]).get (f:Int)).Lo) (by omega) (by omega),wu64 (x:=((l[i]).get (f:Int)).Hi) (by omega) (by omega),wu64 (by omega) (by omega)]
  exact⟨rfl,by simp; omega⟩) (fun n s hs=>by rw [Zct]; simp) acc (by omega)
 rw [this.1,Zqf]
 rfl
theorem Zw9 {f:Nat} (hf:f<5) {a b:List Bx} (hl:a.length + b.length≤400000) (ha:∀ x∈a,BOk x) (hb:∀ x∈b,BOk x) (acc:List Int) (hacc:acc.length≤2):Zcu (f:Int) [a,b] fuel acc 0=some (acc++rawC f (a++b)):=by
 obtain⟨m,hm⟩:=Zl3 2 (by omega)
 rw [hm]
 have i0:idx [a,b] (0:Int)=some a:=rfl
 have i1:idx [a,b] (0 + 1:Int)=some b:=rfl
 rw [Zcu,if_pos (by simp),i0]
 simp only [Option.bind_some]
 rw [Ztd hf (by omega) ha acc (by omega)]
 simp only [Option.bind_some]
 rw [wi64 (by omega) (by omega),Zcu,if_pos (by simp),i1]
 simp only [Option.bind_some]
 rw [Ztd hf (by omega) hb _ (by rw [List.length_append,Ztc]; omega)]
 simp only [Option.bind_some]
 rw [wi64 (by omega) (by omega),Zcu,if_neg (by simp)]
 unfold rawC
 rw [List.flatMap_append,List.append_assoc]
theorem Zx8 {f:Nat} (hf:f<5) {a b:List Bx} (hl:a.length + b.length≤400000) (ha:∀ x∈a,BOk x) (hb:∀ x∈b,BOk x):Ok (Zdi (f:Int) [a,b]) (Pts f (a++b)):=by
 have ht:=topN hf
 unfold Zdi
 rw [Zx7 hf]
 simp only [Option.bind_some]
 rw [wu64 (x:=topOf (f:Int)) (by omega) (by omega),wu64 (by omega) (by omega),Zw9 hf hl ha hb _ (by simp)]
 simp only [Option.bind_some]
 rw [if_pos (by simp)]
 have hlen:([0,topOf (f:Int) + 1]++rawC (f:Int) (a++b)).length=2 + 2 * (a++b).length:=by rw [List.length_append,Ztc]; rfl
 have hab:(a++b).length=a.length + b.length:=List.length_append
 generalize hr:[0,topOf (f:Int) + 1]++rawC (f:Int) (a++b)=raw at hlen
 rw [Zx1 (by omega)]
 simp only [Option.bind_some]
 rw [if_pos (List.length_mergeSort _)]
 have hms:(raw.mergeSort (fun x y=>decide (x≤y))).length=raw.length:=List.length_mergeSort _
 obtain⟨w,v,e,g1,g2,g3⟩:=Zvh (l:=raw.mergeSort (fun x y=>decide (x≤y))) (by omega)
 rw [e]
 have hb2:handB (raw.mergeSort (fun x y=>decide (x≤y))) (some (w,v)) Zcl=some (w,v):=by
  cases hq:raw.mergeSort (fun x y=>decide (x≤y)) with
  | nil=>rw [hq] at hms; simp at hms; omega
  | cons x l=>
   rw [hq] at g1 g2
   simp only [handB,Option.bind_some]
   rw [if_pos ⟨g1,by omega⟩]
 rw [hb2]
 simp only [Option.bind_some,g3]
 have hmem:∀ x,x∈dd (raw.mergeSort (fun x y=>decide (x≤y))) ↔ x∈raw:=fun x=>by rw [dd_mem,List.mem_mergeSort]
 have hasc:(dd (raw.mergeSort (fun x y=>decide (x≤y)))).Pairwise (·<·):=by
  refine Zv7 _ ?_
  have:=List.pairwise_mergeSort (le:=fun x y:Int=>decide (x≤y)) (fun a b c h1 h2=>by simp only [decide_eq_true_eq] at *; omega) (fun a b=>by simp only [Bool.or_eq_true,decide_eq_true_eq]; omega) raw
  exact this.imp fun h=>by simpa using h
 have hrng:∀ x∈raw,0≤x∧x≤topOf (f:Int) + 1:=by
  intro x hx
  rw [← hr] at hx
  simp only [List.mem_append,List.mem_cons,List.not_mem_nil,or_false,rawC,List.mem_flatMap] at hx
  rcases hx with (rfl | rfl) | ⟨b',hb',rfl | rfl⟩
  ·omega
  ·omega
  ·have:=(hb'.elim (fun h=>ha b' h) (fun h=>hb b' h)).at_ hf; omega
  ·have:=(hb'.elim (fun h=>ha b' h) (fun h=>hb b' h)).at_ hf; omega
 refine Ok.ret ⟨hasc,Zw7 hasc ((hmem 0).2 (by rw [← hr]; simp)) fun x hx=>(hrng x ((hmem x).1 hx)).1,Zw8 hasc ((hmem _).2 (by rw [← hr]; simp)) fun x hx=>(hrng x ((hmem x).1 hx)).2,fun x hx=>⟨(hmem _).2 ?_,(hmem _).2 ?_⟩,?_⟩
 ·rw [← hr]; exact List.mem_append_right _ (List.mem_flatMap.2 ⟨x,hx,by simp⟩)
 ·rw [← hr]; exact List.mem_append_right _ (List.mem_flatMap.2 ⟨x,hx,by simp⟩)
 ·have:=dd_len (raw.mergeSort (fun x y=>decide (x≤y)))
  omega
structure InsP (l:List Int) (v top:Int) (r:List Int):Prop where
 asc:r.Pairwise (·<·)
 mem:∀ x,x∈r ↔ x∈l∨(x=v∧v≤top)
 len:r.length≤l.length + 1
structure StP (rs:List Zb) (top:Int) (r:List Int):Prop where
 asc:r.Pairwise (·<·)
 z:0∈r
 rng:∀ x∈r,0≤x∧x≤top
 cut:∀ y∈rs,y.Lo∈r∧(y.Hi + 1≤top→y.Hi + 1∈r)
 len:r.length≤2 * rs.length + 1
end Go.AM
set_option maxRecDepth 100000
namespace Go.AM
open Go
abbrev RL:=List Zb
theorem CF_len:∀(ts:List Int) {l:List RL},CF ts l→∀ b∈l,b.length=ts.length
 | [],l,h,b,hb=>by
  rcases h with rfl | rfl
  ·cases hb
  ·rw [List.mem_singleton] at hb; rw [hb]; rfl
 | t :: ts,l,⟨c,h1,h2,h3⟩,b,hb=>by
  subst h1
  obtain⟨x,hx,hb⟩:=List.mem_flatMap.1 hb
  obtain⟨b',hb',rfl⟩:=List.mem_map.1 hb
  rw [List.length_cons,List.length_cons,CF_len ts (h3 x hx) b' hb']
theorem Ord.len {t:Int}:∀ {c:List Cell},Ord t c→c.length≤(flt c).length
 | [],_=>Nat.le_refl _
 | x :: c,h=>by
  have hx:=(h.ok x (List.mem_cons_self ..)).2.2.2
  have:=Ord.len h.tail
  rw [Zg6,List.length_append,List.length_map,List.length_cons]
  have:0<x.2.length:=List.length_pos_iff.2 hx
  omega
theorem Zor {f:Nat} (h:f≤5) {l l':List RL} (hl:∀ b∈l,b.length=5 - f) (hl':∀ b∈l',b.length=5 - f):l.map (pad f)=l'.map (pad f) ↔ l=l':=by
 constructor
 ·intro e
  have:=congrArg (List.map (sf f)) e
  rw [List.map_map,List.map_map] at this
  have h1:∀ {m:List RL},(∀ b∈m,b.length=5 - f)→m.map (sf f ∘ pad f)=m:=fun {m} hm=>by
   conv=>rhs; rw [← List.map_id m]
   exact List.map_congr_left fun b hb=>sf_pad h (hm b hb)
  rw [h1 hl,h1 hl'] at this
  exact this
 ·rintro rfl; rfl
def gr1 (f:Nat) (x:Cell):Zg:=⟨x.1,x.2.map (pad (f + 1))⟩
def gr (f:Nat) (c:List Cell):List Zg:=c.map (gr1 f)
theorem gr_len (f:Nat) (c:List Cell):(gr f c).length=c.length:=List.length_map _
theorem Znv (f:Nat) (d:List Cell) (y:Cell):gr f (d++[y])=gr f d++[gr1 f y]:=by unfold gr; rw [List.map_append]; rfl
theorem Zxa {α:Type} (l:List α) (x:α) (h:l.length≤1000000000):idx (l++[x]) (IntKind.wrap .i64 (((l++[x]).length:Int) - (1:Int)))=some x:=by
 rw [List.length_append,List.length_singleton,wi64 (by omega) (by omega),show ((l.length + 1:Nat):Int) - 1=((l.length:Nat):Int) by omega,Zbh (by simp)]
 simp
theorem Zxb {α:Type} (l:List α) (x y:α) (h:l.length≤1000000000):(l++[x]).set (Int.toNat (IntKind.wrap .i64 (((l++[x]).length:Int) - (1:Int)))) y=l++[y]:=by
 rw [List.length_append,List.length_singleton,wi64 (by omega) (by omega),show (((l.length + 1:Nat):Int) - 1).toNat=l.length by omega,List.set_append_right _ _ (Nat.le_refl _),Nat.sub_self]
 rfl
def capd (m:Nat) (f:Nat) (l:List RL):List Bx × Bool:=if l.length≤m then (l.map (pad f),true) else ([],false)
theorem Zv8 (c:List Cell) (lo hi:Int) (rest:List RL):rest.length≤(flt (joinC c lo hi rest)).length:=by
 unfold joinC
 split
 ·rename_i h; rw [h]; simp
 ·split
  ·split
   ·rw [Zfm,List.length_append,Zf0]; omega
   ·rw [Zfm,List.length_append,Zf0]; omega
  ·rw [Zfm,List.length_append,Zf0]; omega
theorem Zte {f:Nat} (hf:f<5) {a b:List Bx} (ha:a.length≤2000000000) (hb:b.length≤2000000000) {m:Nat} (hm:m≤100000)
  {z0:Int→List Bx→List Bx→Int→Option (List Bx × Bool)} {ps:List Int} (hps:ps.length≤1000000) {g:Int→List RL} (hg:∀ v,∀ b∈g v,b.length=5 - (f + 1))
  (hz:∀ v,0≤v→v≤topOf (f:Int)→z0 ((f + 1:Nat):Int) (cov a f v) (cov b f v) (m:Int)=some (capd m (f + 1) (g v))) :
  ∀(rem:List Int) (p:Int) (i n:Nat) (c:List Cell),ps.drop i=p :: rem→rem.length<n→Upto g p c→Steps g (p :: rem)→0≤p→(∀ x∈p :: rem,x≤topOf (f:Int) + 1)→(flt c).length≤m →
  Zz (f:Int) a b (m:Int) z0 ps n (gr f c) ((flt c).length:Int) (i:Int) =
   some (if (flt (runC g c (p :: rem))).length≤m then .inl (gr f (runC g c (p :: rem)),((flt (runC g c (p :: rem))).length:Int)) else .inr ([],false)):=by
 intro rem
 induction rem with
 | nil=>
  intro p i n c hd hn hu hs hp ht hc
  cases n with
  | zero=>simp at hn
  | succ n=>
  have hi:ps.length=i + 1:=by
   have h1:=congrArg List.length hd
   rw [List.length_drop] at h1
   simp at h1; omega
  rw [Zz,wsucc (by omega),if_neg (by simp; omega)]
  unfold runC
  rw [if_pos hc]
 | cons q rem ih=>
  intro p i n c hd hn hu hs hp ht hc
  cases n with
  | zero=>simp at hn
  | succ n=>
  obtain⟨hpq,hgc,hs'⟩:=hs
  have htop:=topN hf
  have hqt:=ht q (by simp)
  have hpt:p≤topOf (f:Int):=by omega
  have hlen:i + 2≤ps.length:=by
   have h1:=congrArg List.length hd
   rw [List.length_drop] at h1
   simp at h1; omega
  have gi:∀ j,(ps.drop i)[j]? = ps[i + j]?:=fun j=>List.getElem?_drop
  have h0:idx ps (i:Int)=some p:=by
   have h1:=gi 0
   rw [hd,Nat.add_zero] at h1
   simp only [List.getElem?_cons_zero] at h1
   rw [Zbh (by omega),← List.getElem?_eq_getElem,← h1]
  have h1:idx ps ((i + 1:Nat):Int)=some q:=by
   have h1:=gi 1
   rw [hd] at h1
   simp only [List.getElem?_cons_succ,List.getElem?_cons_zero] at h1
   rw [Zbh (by omega),← List.getElem?_eq_getElem,← h1]
  have hd':ps.drop (i + 1)=q :: rem:=by rw [← List.drop_drop,hd]; rfl
  have e1:IntKind.wrap .u32 p=p:=wu32 hp (by omega)
  have e2:IntKind.wrap .u32 (IntKind.wrap .u64 (q - (1:Int)))=q - 1:=by rw [wu64 (by omega) (by omega),wu32 (by omega) (by omega)]
  have hu':=hu.step hp hpq hgc
  have key:=ih q (i + 1) n (joinC c p (q - 1) (g p)) hd' (by simp at hn; omega) hu' hs' (by omega) (fun x hx=>ht x (List.mem_cons_of_mem _ hx))
  have hrun:runC g c (p :: q :: rem)=runC g (joinC c p (q - 1) (g p)) (q :: rem):=rfl
  have hfin:=Zrs g (q :: rem) (joinC c p (q - 1) (g p))
  have hjr:=Zv8 c p (q - 1) (g p)
  have hcl:=hu.ord.len
  rw [hrun]
  rw [Zz,wsucc (by omega),if_pos (by simp; omega),h0,h1]
  simp only [Option.bind_some,e1,e2]
  rw [Zop ha (by omega) (by omega),Zop hb (by omega) (by omega)]
  simp only [Option.bind_some]
  rw [wsucc (i:=f) (by omega),hz p hp hpt]
  simp only [Option.bind_some,capd]
  by_cases hgm:(g p).length≤m
  ·rw [if_pos hgm]
   simp only [Bool.not_true,Bool.false_eq_true,if_false,List.length_map]
   by_cases hg0:g p=[]
   ·have ej:joinC c p (q - 1) (g p)=c:=by unfold joinC; rw [if_pos hg0]
    rw [ej] at key ⊢
    rw [hg0]
    simp only [List.length_nil,Int.natCast_zero,beq_self_eq_true,if_true,Option.bind_some]
    exact key hc
   ·have hgl:0<(g p).length:=List.length_pos_iff.2 hg0
    rw [if_neg (show ¬ (((g p).length:Int) == (0:Int))=true by simp [hg0])]
    rcases List.eq_nil_or_concat c with rfl | ⟨d,y,rfl⟩
    ·
     have ej:joinC [] p (q - 1) (g p)=[(⟨p,q - 1⟩,g p)]:=by unfold joinC; rw [if_neg hg0]; rfl
     rw [ej] at key hfin ⊢
     rw [Zf0] at key hfin
     have e3:IntKind.wrap .i64 (((flt []).length:Int) + ((g p).length:Int))=((g p).length:Int):=by
      rw [show (flt []).length=0 from rfl,wi64 (by omega) (by omega)]; omega
     simp only [show gr f []=[] from rfl,List.length_nil,Int.natCast_zero,gt_iff_lt,Int.lt_irrefl,decide_false,Bool.false_eq_true,if_false,Option.bind_some,List.length_singleton,Nat.zero_add]
     rw [if_pos (show 1≤lim by unfold lim; omega)]
     simp only [show (flt []).length=0 from rfl,Int.natCast_zero] at e3 ⊢
     rw [e3,if_neg (show ¬ decide ((m:Int)<((g p).length:Int))=true by simp; omega)]
     simp only [Option.bind_some,List.nil_append]
     exact key hgm
    ·rw [List.concat_eq_append] at *
     have hgrl:(gr f d).length≤1000000000:=by rw [gr_len]; rw [List.length_append] at hcl; omega
     have hyo:=hu.ord.ok y (List.mem_append_right _ (List.mem_singleton.2 rfl))
     have hyg:∀ b∈y.2,b.length=5 - (f + 1):=by
      have h2:=hu.at_ y.1.Lo
      rw [lk_mem hu.ord (List.mem_append_right _ (List.mem_singleton.2 rfl)) (Int.le_refl _) hyo.2.1,if_pos (by omega)] at h2
      rw [h2]; exact hg _
     have hx2:idx (gr f (d++[y])) (IntKind.wrap .i64 (((gr f (d++[y])).length:Int) - (1:Int)))=some (gr1 f y):=by rw [Znv]; exact Zxa _ _ hgrl
     have hpos:decide (((gr f (d++[y])).length:Int) > 0)=true:=by rw [gr_len]; simp
     have e4:IntKind.wrap .u32 (y.1.Hi + (1:Int))=y.1.Hi + 1:=wu32 (by omega) (by omega)
     rw [hpos]
     simp only [Option.bind_some,if_true,hx2]
     rw [show (gr1 f y).f_values.Hi=y.1.Hi from rfl,e4,show (gr1 f y).f_rest=y.2.map (pad (f + 1)) from rfl]
     rw [Ztb (by rw [List.length_map]; rw [Zfm,List.length_append] at hc; obtain⟨yr,yrest⟩:=y; rw [Zf0] at hc; simp only at hc ⊢; omega)]
     have hmi:((y.2.map (pad (f + 1))=(g p).map (pad (f + 1))) ↔ y.2=g p):=Zor (by omega) hyg (hg p)
     simp only [hmi,Option.bind_some]
     have ej:joinC (d++[y]) p (q - 1) (g p)=if y.1.Hi + 1=p∧y.2=g p then d++[(⟨y.1.Lo,q - 1⟩,g p)] else (d++[y])++[(⟨p,q - 1⟩,g p)]:=by
      unfold joinC
      rw [if_neg hg0,List.getLast?_concat]
      simp only [List.dropLast_concat]
     by_cases hj:y.1.Hi + 1=p∧y.2=g p
     ·rw [if_pos hj] at ej
      rw [ej] at key hfin ⊢
      have hb1:(y.1.Hi + 1 == p)=true:=by simpa using hj.1
      rw [hb1]
      simp only [if_true,decide_eq_true hj.2,Option.bind_some]
      have e5:(flt (d++[(⟨y.1.Lo,q - 1⟩,g p)])).length=(flt (d++[y])).length:=by
       rw [Zfm,Zfm,List.length_append,List.length_append,Zf0]
       obtain⟨yr,yrest⟩:=y
       rw [Zf0]
       rw [← hj.2]
      rw [e5] at key hfin
      have e6:(gr f (d++[y])).set (Int.toNat (IntKind.wrap .i64 (((gr f (d++[y])).length:Int) - (1:Int)))) ({ gr1 f y with f_values:=({ (gr1 f y).f_values with Hi:=q - 1 }:Zb) }:Zg)=gr f (d++[(⟨y.1.Lo,q - 1⟩,g p)]):=by
       rw [Znv,Zxb _ _ _ hgrl,Znv]
       rw [show (gr1 f (⟨y.1.Lo,q - 1⟩,g p))=({ gr1 f y with f_values:=({ (gr1 f y).f_values with Hi:=q - 1 }:Zb) }:Zg) by unfold gr1; rw [hj.2]]
      have e7:({ f_values:={ Lo:=(gr1 f y).f_values.Lo,Hi:=q - 1 },f_rest:=y.2.map (pad (f + 1)) }:Zg)=({ gr1 f y with f_values:=({ (gr1 f y).f_values with Hi:=q - 1 }:Zb) }:Zg):=rfl
      first | rw [e6] | (rw [e7,e6])
      exact key hc
     ·rw [if_neg hj] at ej
      rw [ej] at key hfin ⊢
      have e8:(flt (d++[y]++[(⟨p,q - 1⟩,g p)])).length=(flt (d++[y])).length + (g p).length:=by
       rw [Zfm,List.length_append,Zf0]
      rw [e8] at key hfin
      have e3:IntKind.wrap .i64 (((flt (d++[y])).length:Int) + ((g p).length:Int))=(((flt (d++[y])).length + (g p).length:Nat):Int):=by
       rw [wi64 (by omega) (by omega)]; omega
      have hcond:(if (y.1.Hi + 1 == p)=true then some (decide (y.2=g p)) else some false)=some false:=by
       by_cases h3:y.1.Hi + 1=p
       ·rw [if_pos (by simpa using h3),decide_eq_false fun h4=>hj ⟨h3,h4⟩]
       ·rw [if_neg (by simpa using h3)]
      rw [hcond]
      simp only [Option.bind_some,Bool.false_eq_true,if_false]
      rw [if_pos (show (gr f (d++[y])).length + [(Zg.mk (Zb.mk p (q - 1)) ((g p).map (pad (f + 1))))].length≤lim by rw [gr_len,List.length_singleton]; unfold lim; omega),e3]
      by_cases hsz:(flt (d++[y])).length + (g p).length≤m
      ·rw [if_neg (by simp; omega)]
       simp only [Option.bind_some]
       have:=key hsz
       rw [Znv] at this
       exact this
      ·rw [if_pos (by simp; omega),if_neg (by omega)]
       rfl
  ·rw [if_neg hgm]
   simp only [Bool.not_false,if_true,Option.bind_some]
   rw [if_neg (by omega)]
end Go.AM
set_option maxRecDepth 100000
namespace Go.AM
open Go
theorem Ztf {f:Nat} (hf:f<5) (x:Cell) (hx:∀ b∈x.2,b.length=4 - f) (acc:List Bx) (hl:acc.length + x.2.length≤2000000000) :
  Z0 (f:Int) (gr1 f x) fuel acc 0=some (acc++(x.2.map (x.1 :: ·)).map (pad f)):=by
 have hlen:(x.2.map (pad (f + 1))).length=x.2.length:=List.length_map _
 have:=Zfj (L:=Z0 (f:Int) (gr1 f x)) (x.2.map (pad (f + 1))) (fun s _ y=>s++[Arr5.set y (f:Int) x.1]) id (fun i s=>s.length≤acc.length + i) (by omega) (fun n s i hi hs=>by
  rw [Z0]
  simp only [show (gr1 f x).f_rest=x.2.map (pad (f + 1)) from rfl,show (gr1 f x).f_values=x.1 from rfl,show ((i:Int)<((x.2.map (pad (f + 1))).length:Int)) from by omega,decide_true,if_true,Zbh hi,Option.bind_some,wsucc (by omega:i<1000000000001),List.length_singleton]
  rw [if_pos ⟨by omega,by omega⟩,if_pos (show s.length + 1≤lim by unfold lim; omega)]
  exact⟨rfl,by simp; omega⟩) (fun n s hs=>by rw [Z0]; simp [show (gr1 f x).f_rest=x.2.map (pad (f + 1)) from rfl]) acc (by omega)
 rw [this.1,Zna,List.map_map,List.map_map]
 simp only [id]
 congr 2
 exact List.map_congr_left fun b hb=>Zx4 hf (hx b hb) x.1
theorem Ztg {f:Nat} (hf:f<5) (c:List Cell) (hc:∀ x∈c,∀ b∈x.2,b.length=4 - f) (hl:(flt c).length≤2000000000) (hcl:c.length≤2000000000) :
  Zw (f:Int) (gr f c) fuel [] 0=some ((flt c).map (pad f)):=by
 have e:∀(d:List Cell) (acc:List Bx) (i:Nat),foldI (fun(s:List Bx) _ (y:Cell)=>s++(y.2.map (y.1 :: ·)).map (pad f)) acc i d=acc++(flt d).map (pad f):=by
  intro d
  induction d with
  | nil=>intro acc i; simp [foldI,flt]
  | cons x d ih=>intro acc i; simp only [foldI]; rw [ih,Zg6,List.map_append,List.append_assoc]
 have:=Zfj (L:=Zw (f:Int) (gr f c)) c (fun s _ y=>s++(y.2.map (y.1 :: ·)).map (pad f)) id (fun i s=>s.length=(flt (c.take i)).length) (by omega) (fun n s i hi hs=>by
  have hi':i<(gr f c).length:=by rw [gr_len]; exact hi
  have hx:idx (gr f c) (i:Int)=some (gr1 f c[i]):=by rw [Zbh hi']; exact congrArg some (List.getElem_map ..)
  have tk:flt (c.take (i + 1))=flt (c.take i)++(c[i].2.map (c[i].1 :: ·)):=by
   rw [List.take_add_one,List.getElem?_eq_getElem hi,Zfm]; simp [flt]
  have hle:(flt (c.take (i + 1))).length≤(flt c).length:=by
   conv=>rhs; rw [← List.take_append_drop (i + 1) c,Zfm,List.length_append]
   omega
  have hle2:(flt (c.take (i + 1))).length=(flt (c.take i)).length + (c[i]).2.length:=by rw [tk,List.length_append,List.length_map]
  rw [Zw]
  rw [if_pos (by rw [gr_len]; simp; omega),hx]
  simp only [Option.bind_some]
  rw [Ztf hf _ (hc _ (List.getElem_mem hi)) s (by omega)]
  simp only [Option.bind_some]
  rw [wsucc (by omega)]
  refine⟨rfl,?_⟩
  rw [List.length_append,List.length_map,List.length_map,hle2,hs]) (fun n s hs=>by rw [Zw]; simp [gr_len]) [] rfl
 rw [this.1,e]
 rfl
structure Canon (op:Bool→Bool→Bool) (C:Nat→Int→List Bx→List Bx→Int→Option (List Bx × Bool)):Prop where
 ff:op false false=false
 base:∀ nr a b m,C (nr + 1) 5 a b m=some (if op (decide ((a.length:Int) > 0)) (decide ((b.length:Int) > 0))=true then ([⟨zr,zr,zr,zr,zr⟩],true) else ([],true))
 step:∀ nr (f:Int) a b m,f ≠ 5→C (nr + 1) f a b m=if (IntKind.wrap .i64 ((a.length:Int) + (b.length:Int)) == (0:Int))=true then some ([],true) else
  (Zdi f [a,b]).bind fun r12=>(Zz f a b m (C nr) r12 fuel [] 0 0).bind fun o=>match o with
   | .inl (v175,v176)=>if 0≤v176∧v176≤(lim:Int) then (Zw f v175 fuel [] 0).bind fun v=>some (v,true) else none
   | .inr r=>some r
theorem mS5 (a:List Bx):mS (a.map (sf 5)) []=decide ((a.length:Int) > 0):=by
 cases a with
 | nil=>rfl
 | cons b a=>
  have:decide (((b :: a).length:Int) > 0)=true:=by simp
  rw [this]
  show (mB (sf 5 b) [] || mS (a.map (sf 5)) [])=true
  rfl
theorem BOk.all {a:List Bx} (h:∀ x∈a,BOk x) (f v:Int):∀ x∈cov a f v,BOk x:=fun x hx=>h x (Zx6 hx)
theorem level {op:Bool→Bool→Bool} {f:Nat} (hf:f<5) {a b:List Bx} {c:List Cell} {ps:List Int} (hps:Pts f (a++b) ps) (hL:Is op (topOf (f:Int) :: tops5.drop (f + 1)) (a.map (sf f)) (b.map (sf f)) (flt c)) (ho:Ord (topOf (f:Int)) c) (hc:∀ x∈c,CF (tops5.drop (f + 1)) x.2) :
  (∃ tl,ps=0 :: tl∧Steps (lk c) (0 :: tl)∧runC (lk c) [] (0 :: tl)=c)∧(∀ v,∀ b∈lk c v,b.length=4 - f) ∧
  ∀ v,0≤v→v≤topOf (f:Int)→Is op (tops5.drop (f + 1)) ((cov a f v).map (sf (f + 1))) ((cov b f v).map (sf (f + 1))) (lk c v):=by
 have hat:∀ v,0≤v→v≤topOf (f:Int)→Is op (tops5.drop (f + 1)) (atv (a.map (sf f)) v) (atv (b.map (sf f)) v) (lk c v):=fun v h0 h1=>Is.at_ ho hc hL h0 h1
 obtain⟨tl,rfl⟩:=hps.h0
 have hrng:∀ x∈(0:Int) :: tl,x≤topOf (f:Int) + 1:=by
  obtain⟨ys,hy⟩:=List.getLast?_eq_some_iff.1 hps.hl
  intro x hx
  have hp:=hps.asc
  rw [hy] at hx hp
  rcases List.mem_append.1 hx with h | h
  ·have:=(List.pairwise_append.1 hp).2.2 x h _ (List.mem_singleton.2 rfl); omega
  ·rw [List.mem_singleton] at h; omega
 have hcut:∀ l:List Bx,(∀ x∈l,x∈a++b)→Cut ((0:Int) :: tl) (l.map (sf f)):=by
  intro l hl x hx r b' e
  obtain⟨z,hz,rfl⟩:=List.mem_map.1 hx
  rw [Znt hf,List.cons.injEq] at e
  rw [← e.1]
  exact hps.cut z (hl z hz)
 have hsteps:Steps (lk c) (0 :: tl):=by
  refine Zs4 (List.cons_ne_nil _ _) hps.asc fun i h v h1 h2=>?_
  have hx:=Zr7 hps.asc h
  have hm:=List.pairwise_iff_getElem.1 hps.asc
  have h0i:0≤((0:Int) :: tl)[i]:=by
   rcases Nat.eq_zero_or_pos i with rfl | hi
   ·exact Int.le_refl _
   ·exact Int.le_of_lt (hm 0 i (by simp) (by omega) hi)
  have hti:=hrng _ (List.getElem_mem h)
  have key:∀ {l:List RL},Cut ((0:Int) :: tl) l→atv l v=atv l ((0:Int) :: tl)[i]:=fun hl=>
   Zwu (fun b hb r b' e=>⟨hx _ (hl b hb r b' e).1,hx _ (hl b hb r b' e).2⟩) h1 h2
  have g1:=hat v (by omega) (by omega)
  rw [key (hcut a fun x hx=>List.mem_append_left _ hx),key (hcut b fun x hx=>List.mem_append_right _ hx)] at g1
  exact g1.inj (hat _ h0i (by omega))
 refine⟨⟨tl,rfl,hsteps,Zxz hsteps hps.hl ho fun v _ _=>rfl⟩,fun v b' hb'=>?_,fun v h0 h1=>by rw [Zut hf,Zut hf]; exact hat v h0 h1⟩
 have:=CF_len _ (CF_lk ho hc v) b' hb'
 rw [this,List.length_drop]
 show 5 - (f + 1)=4 - f
 omega
theorem Zxc {op:Bool→Bool→Bool} {C:Nat→Int→List Bx→List Bx→Int→Option (List Bx × Bool)} (hC:Canon op C) {m:Nat} (hm1:1≤m) (hm:m≤100000):∀(k f nr:Nat) (a b:List Bx) (l:List RL),f + k=5→k<nr→a.length + b.length≤400000→(∀ x∈a,BOk x)→(∀ x∈b,BOk x) →
  Is op (tops5.drop f) (a.map (sf f)) (b.map (sf f)) l→C nr (f:Int) a b (m:Int)=some (capd m f l):=by
 intro k
 induction k with
 | zero=>
  intro f nr a b l hf hn hl ha hb hL
  have hf:f=5:=by omega
  subst hf
  cases nr with
  | zero=>omega
  | succ nr=>
  have h1:=hL.mem [] trivial
  rw [mS5,mS5] at h1
  rw [show ((5:Nat):Int)=5 from rfl,hC.base,← h1]
  rcases hL.cf with rfl | rfl
  ·rfl
  ·rw [if_pos (show mS [[]] []=true from rfl)]
   unfold capd
   rw [if_pos (show ([[]]:List RL).length≤m from hm1)]
   rfl
 | succ k ih=>
  intro f nr a b l hf hn hl ha hb hL
  have hf5:f<5:=by omega
  cases nr with
  | zero=>omega
  | succ nr=>
  rw [Zrv hf5] at hL
  rw [hC.step nr (f:Int) a b _ (by omega)]
  rw [wi64 (by omega) (by omega)]
  by_cases h0:a.length + b.length=0
  ·rw [if_pos (by simp; omega)]
   have ha0:a=[]:=List.length_eq_zero_iff.1 (by omega)
   have hb0:b=[]:=List.length_eq_zero_iff.1 (by omega)
   subst ha0 hb0
   have:l=[]:=hL.inj ⟨CF_nil _,fun p hp=>by simp [mS,hC.ff]⟩
   rw [this]
   rfl
  ·rw [if_neg (by simp; omega)]
   obtain⟨ps,hp1,hp2⟩:=Zx8 hf5 hl ha hb
   rw [hp1]
   simp only [Option.bind_some]
   obtain⟨c,rfl,ho,hc⟩:=hL.cf
   obtain⟨⟨tl,rfl,hs,hr⟩,hg,hz⟩:=level hf5 hp2 hL ho hc
   have hlen:=hp2.len
   rw [List.length_append] at hlen
   have hrng:∀ x∈(0:Int) :: tl,x≤topOf (f:Int) + 1:=by
    obtain⟨ys,hy⟩:=List.getLast?_eq_some_iff.1 hp2.hl
    intro x hx
    have hp:=hp2.asc
    rw [hy] at hx hp
    rcases List.mem_append.1 hx with h | h
    ·have:=(List.pairwise_append.1 hp).2.2 x h _ (List.mem_singleton.2 rfl); omega
    ·rw [List.mem_singleton] at h; omega
   have hmain:=Zte hf5 (a:=a) (b:=b) (by omega) (by omega) (m:=m) hm (z0:=C nr) (ps:=0 :: tl) (by omega) (g:=lk c) (fun v b' hb'=>by rw [hg v b' hb']; omega) (fun v h0 h1=>by
    refine ih (f + 1) nr _ _ _ (by omega) (by omega) ?_ (BOk.all ha _ _) (BOk.all hb _ _) (hz v h0 h1)
    have:=Zuu a (f:Int) v
    have:=Zuu b (f:Int) v
    omega) tl 0 0 fuel [] rfl (by unfold fuel; simp only [List.length_cons] at hlen; omega) (Upto.nil _) hs (Int.le_refl _) hrng (Nat.zero_le _)
   rw [show gr f []=[] from rfl,show (flt []).length=0 from rfl,show ((0:Nat):Int)=0 from rfl,hr] at hmain
   rw [hmain]
   simp only [Option.bind_some]
   unfold capd
   have hcl:=ho.len
   by_cases hm2:(flt c).length≤m
   ·rw [if_pos hm2,if_pos hm2]
    simp only
    rw [if_pos ⟨by omega,by unfold lim; omega⟩,Ztg hf5 c (fun x hx b' hb'=>by
     have h2:=ho.ok x hx
     have:=hg x.1.Lo b' (by rw [lk_mem ho hx (Int.le_refl _) h2.2.1]; exact hb')
     exact this) (by omega) (by omega)]
    rfl
   ·rw [if_neg hm2,if_neg hm2]
theorem Zth:Canon (fun x y=>x || y) Zad:=by
 refine⟨rfl,fun nr a b m=>?_,fun nr f a b m hf=>?_⟩
 ·rw [Zad,if_pos (by decide)]
  unfold Zd6
  simp only [Option.bind_some]
  split <;> rfl
 ·rw [Zad,if_neg (by simpa using hf)]
  unfold Zd6
  simp only [Option.bind_some,Bool.or_self,Bool.not_false]
  cases (IntKind.wrap .i64 ((a.length:Int) + (b.length:Int)) == (0:Int)) <;> rfl
theorem Zx9:@Zbo=@Zz:=by
 funext a0 a1 a2 a3 z0 r12 n
 induction n with
 | zero=>rfl
 | succ n ih=>funext v94 v95 v96; rw [Zbo,Zz,ih]
theorem Zya:@Zbp=@Z0:=by
 funext a0 x n
 induction n with
 | zero=>rfl
 | succ n ih=>funext v w; rw [Zbp,Z0,ih]
theorem Zyb:@Zbq=@Zw:=by
 funext a0 x n
 induction n with
 | zero=>rfl
 | succ n ih=>funext v w; rw [Zbq,Zw,ih,Zya]
theorem Zvj:Canon (fun x y=>x && y) Zai:=by
 refine⟨rfl,fun nr a b m=>?_,fun nr f a b m hf=>?_⟩
 ·rw [Zai,if_pos (by decide)]
  unfold Zev
  simp only [Option.bind_some]
  split <;> rfl
 ·rw [Zai,if_neg (by simpa using hf),Zx9,Zyb]
  unfold Zev
  simp only [Option.bind_some,Bool.and_self,Bool.not_false]
  cases (IntKind.wrap .i64 ((a.length:Int) + (b.length:Int)) == (0:Int)) <;> rfl
theorem Zvk:@Zbe=@Zz:=by
 funext a0 a1 a2 a3 z0 r12 n
 induction n with
 | zero=>rfl
 | succ n ih=>funext v94 v95 v96; rw [Zbe,Zz,ih]
theorem Zvl:@Zbf=@Z0:=by
 funext a0 x n
 induction n with
 | zero=>rfl
 | succ n ih=>funext v w; rw [Zbf,Z0,ih]
theorem Zvm:@Zbg=@Zw:=by
 funext a0 x n
 induction n with
 | zero=>rfl
 | succ n ih=>funext v w; rw [Zbg,Zw,ih,Zvl]
theorem Zr9:Canon (fun x y=>x && !y) Zac:=by
 refine⟨rfl,fun nr a b m=>?_,fun nr f a b m hf=>?_⟩
 ·rw [Zac,if_pos (by decide)]
  unfold Zdu
  simp only [Option.bind_some]
  split <;> rfl
 ·rw [Zac,if_neg (by simpa using hf),Zvk,Zvm]
  unfold Zdu
  simp only [Option.bind_some,Bool.not_false,Bool.false_and]
  cases (IntKind.wrap .i64 ((a.length:Int) + (b.length:Int)) == (0:Int)) <;> rfl
end Go.AM
set_option maxRecDepth 100000
namespace Go.AM
open Go
theorem set_set {f:Nat} (b:Bx) (r s:Zb):(b.set (f:Int) r).set (f:Int) s=b.set (f:Int) s:=by
 unfold Arr5.set
 split
 ·rfl
 ·split
  ·rfl
  ·split
   ·rfl
   ·split <;> rfl
end Go.AM
set_option maxRecDepth 100000
namespace Go.AM
open Go
def mem (l:List Bx) (p:List Int):Bool:=mS (l.map toL) p
def CFb (l:List Bx):Prop:=CF tops5 (l.map toL)
theorem CF_vR:∀(ts:List Int) {l:List RL},CF ts l→∀ b∈l,vR ts b
 | [],l,h,b,hb=>by
  rcases h with rfl | rfl
  ·cases hb
  ·rw [List.mem_singleton] at hb; rw [hb]; trivial
 | t :: ts,l,⟨c,h1,h2,h3⟩,b,hb=>by
  subst h1
  obtain⟨x,hx,hb⟩:=List.mem_flatMap.1 hb
  obtain⟨b',hb',rfl⟩:=List.mem_map.1 hb
  have:=h2.ok x hx
  exact⟨this.1,this.2.1,this.2.2.1,CF_vR ts (h3 x hx) b' hb'⟩
theorem vR_ok {b:Bx} (h:vR tops5 (toL b)):BOk b:=by
 obtain⟨a0,a1,a2,b0,b1,b2,c0,c1,c2,d0,d1,d2,e0,e1,e2,_⟩:=h
 exact⟨⟨a0,a1,a2⟩,⟨b0,b1,b2⟩,⟨c0,c1,c2⟩,⟨d0,d1,d2⟩,⟨e0,e1,e2⟩⟩
theorem CFb.ok {l:List Bx} (h:CFb l):∀ b∈l,BOk b:=fun b hb=>vR_ok (CF_vR _ h _ (List.mem_map_of_mem hb))
theorem Zt8 {l:List RL} (h:∀ b∈l,b.length=5):(l.map (pad 0)).map toL=l:=by
 rw [List.map_map]
 conv=>rhs; rw [← List.map_id l]
 exact List.map_congr_left fun b hb=>Zus (h b hb)
theorem Zxd:∀ t∈tops5,0≤t:=by unfold tops5; simp
theorem Zvn (op:Bool→Bool→Bool) (a b:List Bx):∃ l:List Bx,Is op tops5 (a.map toL) (b.map toL) (l.map toL):=by
 obtain⟨l,h⟩:=Is.exists_ op tops5 Zxd (a.map toL) (b.map toL)
 refine⟨l.map (pad 0),?_⟩
 rw [Zt8 (fun b hb=>CF_len _ h.cf b hb)]
 exact h
structure Can (op:Bool→Bool→Bool) (a b l:List Bx):Prop where
 cf:CFb l
 mem:∀ p,vP tops5 p→mem l p=op (mem a p) (mem b p)
theorem Can.is {op:Bool→Bool→Bool} {a b l:List Bx} (h:Can op a b l):Is op tops5 (a.map toL) (b.map toL) (l.map toL):=⟨h.cf,h.mem⟩
theorem Zt9 {l l':List Bx} (h:l.map toL=l'.map toL):l=l':=by
 have:=congrArg (List.map ofL) h
 rw [List.map_map,List.map_map] at this
 have e:(ofL ∘ toL)=id:=funext fun b=>Znu b
 rw [e,List.map_id,List.map_id] at this
 exact this
theorem CFb.inj {l l':List Bx} (h:CFb l) (h':CFb l') (e:∀ p,vP tops5 p→mem l p=mem l' p):l=l':=Zt9 (CF_inj _ h h' e)
theorem Can.inj {op:Bool→Bool→Bool} {a b l l':List Bx} (h:Can op a b l) (h':Can op a b l'):l=l':=h.cf.inj h'.cf fun p hp=>by rw [h.mem p hp,h'.mem p hp]
theorem Can.ex (op:Bool→Bool→Bool) (a b:List Bx):∃ l,Can op a b l:=by
 obtain⟨l,h⟩:=Zvn op a b
 exact⟨l,h.cf,h.mem⟩
theorem CFb.nil:CFb []:=CF_nil _
theorem Zgo (p:List Int):mem [] p=false:=rfl
theorem Can.right {op:Bool→Bool→Bool} (h:∀ x,op x false=x) {a:List Bx} (ha:CFb a):Can op a [] a:=⟨ha,fun p _=>by rw [Zgo,h]⟩
theorem Zyc (l:List Bx):(l.map toL).map (pad 0)=l:=by
 rw [List.map_map]
 have e:(pad 0 ∘ toL)=id:=funext fun b=>Znu b
 rw [e,List.map_id]
theorem Znj {op:Bool→Bool→Bool} {C:Nat→Int→List Bx→List Bx→Int→Option (List Bx × Bool)} (hC:Canon op C) {a b l:List Bx} (hl:a.length + b.length≤400000) (ha:∀ x∈a,BOk x) (hb:∀ x∈b,BOk x) (h:Can op a b l) :
  C fuel 0 a b 4096=some (if l.length≤4096 then (l,true) else ([],false)):=by
 have:=Zxc hC (m:=4096) (by omega) (by omega) 5 0 fuel a b (l.map toL) (by omega) (by unfold fuel; omega) hl ha hb h.is
 rw [show ((0:Nat):Int)=0 from rfl,show ((4096:Nat):Int)=4096 from rfl] at this
 rw [this]
 unfold capd
 rw [List.length_map,Zyc]
def capB (l:List Bx):List Bx × Int:=if l.length≤4096 then (l,0) else ([],3)
theorem Zra {a b l:List Bx} (hl:a.length + b.length≤400000) (ha:∀ x∈a,BOk x) (hb:∀ x∈b,BOk x) (h:Can (fun x y=>x || y) a b l):Zbk a b=some (capB l):=by
 unfold Zbk capB
 rw [Znj Zth hl ha hb h]
 by_cases h:l.length≤4096
 ·rw [if_pos h,if_pos h]; rfl
 ·rw [if_neg h,if_neg h]; rfl
theorem Zti {a b l:List Bx} (hl:a.length + b.length≤400000) (ha:∀ x∈a,BOk x) (hb:∀ x∈b,BOk x) (h:Can (fun x y=>x && y) a b l):Zcz a b=some (capB l):=by
 unfold Zcz capB
 rw [Znj Zvj hl ha hb h]
 by_cases h:l.length≤4096
 ·rw [if_pos h,if_pos h]; rfl
 ·rw [if_neg h,if_neg h]; rfl
theorem Zqm {a b l:List Bx} (hl:a.length + b.length≤400000) (ha:∀ x∈a,BOk x) (hb:∀ x∈b,BOk x) (h:Can (fun x y=>x && !y) a b l):Zcm a b=some (capB l):=by
 unfold Zcm capB
 rw [Znj Zr9 hl ha hb h]
 by_cases h:l.length≤4096
 ·rw [if_pos h,if_pos h]; rfl
 ·rw [if_neg h,if_neg h]; rfl
end Go.AM
set_option maxRecDepth 100000
namespace Go.AM
open Go
theorem Zry {a b:Zb}:Zed a b=true ↔ a=b:=by rw [eq_rg]; simp
structure RunTo (f:Nat) (l:List Bx) (r:Zb) (n:Nat):Prop where
 h1:n≤l.length
 eq:∀ i (h:i<l.length),i<n→(l[i]).get (f:Int)=r
 ne:∀(h:n<l.length),(l[n]).get (f:Int) ≠ r
theorem Zxe {f:Nat} (hf:f<5) {l:List Bx} (hl:l.length≤1000000) {b0:Bx} (h0:l[0]? = some b0):∀(k j n:Nat),l.length - j=k→k<n→1≤j→j≤l.length→(∀ i (h:i<l.length),i<j→(l[i]).get (f:Int)=b0.get (f:Int)) →
  ∃ N:Nat,Zcq (f:Int) l n (j:Int)=some (N:Int)∧j≤N∧RunTo f l (b0.get (f:Int)) N:=by
 intro k
 have hpos:0<l.length:=by
  rcases l with _ | ⟨x,l⟩
  ·simp at h0
  ·simp
 have i0:idx l (0:Int)=some b0:=by rw [show (0:Int)=((0:Nat):Int) from rfl,Zbh hpos,← List.getElem?_eq_getElem,h0]
 induction k with
 | zero=>
  intro j n hk hn h1 hj he
  cases n with
  | zero=>omega
  | succ n=>
  have hd:decide ((j:Int)<(l.length:Int))=false:=by simp; omega
  rw [Zcq,hd]
  exact⟨j,rfl,Nat.le_refl _,hj,he,fun h=>by omega⟩
 | succ k ih=>
  intro j n hk hn h1 hj he
  cases n with
  | zero=>omega
  | succ n=>
  have hjl:j<l.length:=by omega
  have hd:decide ((j:Int)<(l.length:Int))=true:=by simp; omega
  rw [Zcq,hd]
  simp only [Option.bind_some,if_true,Zbh hjl,i0]
  rw [if_pos ⟨by omega,by omega⟩,if_pos ⟨by omega,by omega⟩]
  simp only [Option.bind_some]
  by_cases hq:(l[j]).get (f:Int)=b0.get (f:Int)
  ·rw [if_pos (Zry.2 hq),wsucc (by omega)]
   obtain⟨N,e,g1,g2⟩:=ih (j + 1) n (by omega) (by omega) (by omega) (by omega) (fun i h hi=>by
    rcases Nat.lt_or_eq_of_le (Nat.lt_succ_iff.1 hi) with h2 | h2
    ·exact he i h h2
    ·subst h2; exact hq)
   exact⟨N,e,by omega,g2⟩
  ·rw [if_neg (fun h=>hq (Zry.1 h))]
   exact⟨j,rfl,Nat.le_refl _,hj,he,fun _=>hq⟩
theorem Zv9 {f:Nat} (hf:f<5) {l:List Bx} {r:Zb} {n:Nat} (hn:1≤n) (h:RunTo f l r n) (hl:l ≠ []) :
  l.map (sf f)=((l.take n).map (sf (f + 1))).map (r :: ·)++(l.drop n).map (sf f)∧(l.take n).map (sf (f + 1)) ≠ []∧∀ b,((l.drop n).map (sf f)).head? = some b→∃ r' b',b=r' :: b'∧r' ≠ r:=by
 refine⟨?_,?_,?_⟩
 ·conv=>lhs; rw [← List.take_append_drop n l,List.map_append]
  congr 1
  rw [List.map_map]
  refine List.map_congr_left fun b hb=>?_
  obtain⟨i,hi,rfl⟩:=List.getElem_of_mem hb
  have hi2:i<n∧i<l.length:=by rw [List.length_take] at hi; omega
  rw [List.getElem_take,Znt hf,h.eq i hi2.2 hi2.1]
  rfl
 ·intro e
  have:=congrArg List.length e
  simp only [List.length_map,List.length_take,List.length_nil] at this
  have:0<l.length:=List.length_pos_iff.2 hl
  omega
 ·intro b hb
  by_cases hnl:n<l.length
  ·rw [List.drop_eq_getElem_cons hnl] at hb
   simp only [List.map_cons,List.head?_cons,Option.some.injEq] at hb
   exact⟨_,_,by rw [← hb,Znt hf],h.ne hnl⟩
  ·rw [List.drop_eq_nil_of_le (by omega)] at hb
   simp at hb
def zpre (f:Nat) (b:Bx):Bx:=pad (f + 1) (sf (f + 1) b)
theorem Zwa {f:Nat} (hf:f<5) {v:List Bx} {i:Nat} (hi:i<v.length):Zbt (f:Int) (i:Int) fuel v 0=some (v.set i (zpre f v[i])):=by
 obtain⟨n,hn⟩:∃ n,fuel=n + 6:=⟨fuel - 6,by unfold fuel; omega⟩
 rw [hn]
 have stop:∀(k:Nat) (m:Nat) (w:List Bx),f<k→Zbt (f:Int) (i:Int) (m + 1) w (k:Int)=some w:=by
  intro k m w hk
  rw [Zbt,if_neg (by simp; omega)]
 have nx:∀(k:Nat) (m:Nat) (x:Bx),k<5→k≤f→Zbt (f:Int) (i:Int) (m + 1) (v.set i x) (k:Int)=Zbt (f:Int) (i:Int) m (v.set i (x.set (k:Int) zr)) ((k + 1:Nat):Int):=by
  intro k m x hk hkf
  rw [Zbt,if_pos (by simp; omega),Zbh (show i<(v.set i x).length by rw [List.length_set]; exact hi),List.getElem_set_self]
  simp only [Option.bind_some,Int.toNat_natCast]
  rw [if_pos ⟨by omega,by omega⟩,wsucc (by omega),List.set_set]
  rfl
 have first:v=v.set i v[i]:=(List.set_getElem_self hi).symm
 conv=>lhs; rw [first]
 rw [show (0:Int)=((0:Nat):Int) from rfl]
 rcases fiveN hf with rfl | rfl | rfl | rfl | rfl
 ·rw [nx 0 _ _ (by omega) (by omega),stop _ _ _ (by omega)]; rfl
 ·rw [nx 0 _ _ (by omega) (by omega),nx 1 _ _ (by omega) (by omega),stop _ _ _ (by omega)]; rfl
 ·rw [nx 0 _ _ (by omega) (by omega),nx 1 _ _ (by omega) (by omega),nx 2 _ _ (by omega) (by omega),stop _ _ _ (by omega)]; rfl
 ·rw [nx 0 _ _ (by omega) (by omega),nx 1 _ _ (by omega) (by omega),nx 2 _ _ (by omega) (by omega),nx 3 _ _ (by omega) (by omega),stop _ _ _ (by omega)]; rfl
 ·rw [nx 0 _ _ (by omega) (by omega),nx 1 _ _ (by omega) (by omega),nx 2 _ _ (by omega) (by omega),nx 3 _ _ (by omega) (by omega),nx 4 _ _ (by omega) (by omega),stop _ _ _ (by omega)]; rfl
def stepN {α:Type} (g:α→α) (s:List α) (i:Nat) (_:α):List α:=match s[i]? with
 | some x=>s.set i (g x)
 | none=>s
theorem Zl6 {α:Type} (g:α→α):∀(l pre:List α),foldI (stepN g) (pre++l) pre.length l=pre++l.map g
 | [],pre=>by simp [foldI]
 | x :: l,pre=>by
  have e:foldI (stepN g) (pre++x :: l) pre.length (x :: l)=foldI (stepN g) (stepN g (pre++x :: l) pre.length x) (pre.length + 1) l:=rfl
  rw [e]
  have h1:(pre++x :: l)[pre.length]? = some x:=by rw [List.getElem?_append_right (Nat.le_refl _),Nat.sub_self]; rfl
  have h2:(pre++x :: l).set pre.length (g x)=(pre++[g x])++l:=by rw [List.set_append_right _ _ (Nat.le_refl _),Nat.sub_self]; simp
  have h3:stepN g (pre++x :: l) pre.length x=(pre++[g x])++l:=by unfold stepN; rw [h1]; exact h2
  rw [h3]
  have:=Zl6 g l (pre++[g x])
  rw [List.length_append,List.length_singleton] at this
  rw [this]
  simp
theorem Zwb {f:Nat} (hf:f<5) {l:List Bx} (hl:l.length≤2000000000):Zfg (f:Int) l=some (l.map (zpre f)):=by
 unfold Zfg
 rw [if_pos (by unfold lim; omega)]
 have:=Zfj (L:=Zc3 (f:Int) l) l (stepN (zpre f)) id (fun _ s=>s.length=l.length) (by omega) (fun n s i hi hs=>by
  rw [Zc3]
  simp only [show ((i:Int)<(l.length:Int)) from by omega,decide_true,if_true,Option.bind_some,wsucc (by omega:i<1000000000001)]
  rw [Zwa hf (show i<s.length by omega)]
  have h3:stepN (zpre f) s i l[i]=s.set i (zpre f s[i]):=by unfold stepN; rw [List.getElem?_eq_getElem (show i<s.length by omega)]
  rw [h3]
  exact⟨rfl,by rw [List.length_set]; exact hs⟩) (fun n s hs=>by rw [Zc3]; simp) l rfl
 have h2:=Zl6 (zpre f) l []
 rw [List.nil_append,List.nil_append,List.length_nil] at h2
 rw [this.1,h2]
 rfl
def lastG (f:Nat):Option Cell→Zg
 | none=>Zfd
 | some x=>gr1 f x
theorem Zsa {f:Nat} (hf:f<5) {z0:Int→List Bx→Option Bool}
  (hz:∀ l:List Bx,l.length≤1000000→(∀ x∈l,BOk x)→∃ r,z0 ((f + 1:Nat):Int) l=some r∧(r=true ↔ CF (tops5.drop (f + 1)) (l.map (sf (f + 1))))) :
  ∀(K n:Nat) (l:List Bx) (last:Option Cell),l.length≤K→K<n→l.length≤1000000→(∀ x∈l,BOk x)→(∀ y∈last,y.2 ≠ []∧y.2.length≤1000000∧0≤y.1.Hi∧y.1.Hi<4294967296∧∀ b∈y.2,b.length=5 - (f + 1)) →
  ∃ o,Zb3 (f:Int) z0 n (lastG f last) l=some o∧((∃ c,l.map (sf f)=flt c∧Nx (topOf (f:Int)) (tops5.drop (f + 1)) last c)→∃ g,o=.inl g)∧(¬ (∃ c,l.map (sf f)=flt c∧Nx (topOf (f:Int)) (tops5.drop (f + 1)) last c)→o=.inr false):=by
 intro K
 induction K with
 | zero=>
  intro n l last hlK hn hl hok hlast
  have:l=[]:=List.length_eq_zero_iff.1 (by omega)
  subst this
  cases n with
  | zero=>omega
  | succ n=>
  rw [Zb3,if_neg (by simp)]
  exact⟨_,rfl,fun _=>⟨_,rfl⟩,fun h=>absurd ⟨[],rfl,Nx.nil ..⟩ h⟩
 | succ K ih=>
  intro n l last hlK hn hl hok hlast
  cases n with
  | zero=>omega
  | succ n=>
  cases hll:l with
  | nil=>
   rw [Zb3,if_neg (by simp)]
   exact⟨_,rfl,fun _=>⟨_,rfl⟩,fun h=>absurd ⟨[],rfl,Nx.nil ..⟩ h⟩
  | cons b0 l'=>
  have hne:l ≠ []:=by rw [hll]; exact List.cons_ne_nil _ _
  have hpos:0<l.length:=List.length_pos_iff.2 hne
  have h0:l[0]? = some b0:=by rw [hll]; rfl
  have i0:idx l (0:Int)=some b0:=by rw [show (0:Int)=((0:Nat):Int) from rfl,Zbh hpos,← List.getElem?_eq_getElem,h0]
  obtain⟨N,e1,g1,g2⟩:=Zxe hf hl h0 (l.length - 1) 1 fuel rfl (by unfold fuel; omega) (Nat.le_refl _) (by omega) (fun i h hi=>by
   have:i=0:=by omega
   subst this
   rw [List.getElem?_eq_getElem h,Option.some.injEq] at h0
   rw [h0])
  rw [← hll]
  obtain⟨s1,s2,s3⟩:=Zv9 hf g1 g2 hne
  have hb0:BOk b0:=hok b0 (by rw [hll]; exact List.mem_cons_self ..)
  have hb0r:=hb0.at_ hf
  have htop:=topN hf
  rw [Zb3,if_pos (by simp; omega)]
  rw [show ((1:Nat):Int)=1 from rfl] at e1
  rw [e1]
  simp only [Option.bind_some,i0,Int.toNat_natCast,Int.toNat_zero,List.drop_zero]
  have hN:=g2.h1
  rw [if_pos ⟨by omega,by omega⟩,if_pos ⟨by omega,by omega,by omega⟩]
  have htl:(l.take N).length≤1000000:=by rw [List.length_take]; omega
  rw [Zwb hf (by omega)]
  simp only [Option.bind_some]
  rw [if_pos ⟨by omega,by omega,by omega⟩,wsucc (by omega)]
  obtain⟨rv,z1,z2⟩:=hz (l.take N) htl (fun x hx=>hok x (List.mem_of_mem_take hx))
  rw [z1]
  simp only [Option.bind_some]
  rw [s1]
  have hrun:=Nx.run (t:=topOf (f:Int)) (ts:=tops5.drop (f + 1)) (last:=last) (r:=b0.get (f:Int)) s2 s3
  rw [hrun]
  cases rv with
  | false=>
   simp only [Bool.not_false,if_true]
   have hncf:¬ CF (tops5.drop (f + 1)) ((l.take N).map (sf (f + 1))):=fun h=>by have:=z2.2 h; cases this
   exact⟨_,rfl,fun h=>absurd h.2.1 hncf,fun _=>rfl⟩
  | true=>
   simp only [Bool.not_true,Bool.false_eq_true,if_false]
   have hcf:=z2.1 rfl
   have hzl:∀ b∈(l.take N).map (sf (f + 1)),b.length=5 - (f + 1):=fun b hb=>by
    obtain⟨x,_,rfl⟩:=List.mem_map.1 hb
    exact sf_len (by omega) x
   have hzm:(l.take N).map (zpre f)=((l.take N).map (sf (f + 1))).map (pad (f + 1)):=by rw [List.map_map]; rfl
   have hgap:∃ og:Unit ⊕ Bool,(if decide (((lastG f last).f_rest.length:Int) > 0)=true then
      (if decide ((b0.get (f:Int)).Lo≤(lastG f last).f_values.Hi)=true then some true else
       (if ((b0.get (f:Int)).Lo == (IntKind.wrap .u32 ((lastG f last).f_values.Hi + (1:Int))))=true then
        (Zan ((l.take N).map (zpre f)) (lastG f last).f_rest).bind fun(r223:Bool)=>
        some r223
        else some false).bind fun(v225:Bool)=>
       some v225
       ).bind fun(v227:Bool)=>
      if v227=true then
       (some (.inr false):Option (Unit ⊕ Bool))
      else
       some (.inl ())
     else
      some (.inl ()))=some og∧((∀ y∈last,gp y (b0.get (f:Int),(l.take N).map (sf (f + 1))))→og=.inl ())∧(¬ (∀ y∈last,gp y (b0.get (f:Int),(l.take N).map (sf (f + 1))))→og=.inr false):=by
    cases last with
    | none=>
     rw [if_neg (show ¬ decide (((lastG f none).f_rest.length:Int) > 0)=true from fun h=>by cases h)]
     exact⟨_,rfl,fun _=>rfl,fun h=>absurd (fun y hy=>by cases hy) h⟩
    | some y=>
     obtain⟨y1,y2,y3,y4,y5⟩:=hlast y rfl
     have hyl:0<y.2.length:=List.length_pos_iff.2 y1
     have hall:(∀ z∈some y,gp z (b0.get (f:Int),(l.take N).map (sf (f + 1)))) ↔ gp y (b0.get (f:Int),(l.take N).map (sf (f + 1))):=⟨fun h=>h y rfl,fun h z hz=>by cases hz; exact h⟩
     simp only [lastG,show (gr1 f y).f_rest=y.2.map (pad (f + 1)) from rfl,show (gr1 f y).f_values=y.1 from rfl,List.length_map]
     rw [if_pos (by simp; omega),hall]
     unfold gp
     by_cases c1:(b0.get (f:Int)).Lo≤y.1.Hi
     ·rw [if_pos (decide_eq_true c1)]
      simp only [Option.bind_some,if_true]
      exact⟨_,rfl,fun h=>by have:=h.1; omega,fun _=>rfl⟩
     ·rw [if_neg (by simpa using c1)]
      rw [wu32 (x:=y.1.Hi + 1) (by omega) (by omega)]
      by_cases c2:(b0.get (f:Int)).Lo=y.1.Hi + 1
      ·rw [if_pos (by simpa using c2),Ztb (by rw [List.length_map]; omega),hzm]
       have hmi:=Zor (f:=f + 1) (by omega) hzl y5
       simp only [Option.bind_some,decide_eq_true_eq,hmi]
       by_cases c3:(l.take N).map (sf (f + 1))=y.2
       ·rw [if_pos c3]
        exact⟨_,rfl,fun h=>absurd c3.symm (h.2 (by omega)),fun _=>rfl⟩
       ·rw [if_neg c3]
        exact⟨_,rfl,fun _=>rfl,fun h=>absurd ⟨by omega,fun _ h=>c3 h.symm⟩ h⟩
      ·rw [if_neg (by simpa using c2)]
       simp only [Option.bind_some,Bool.false_eq_true,if_false]
       exact⟨_,rfl,fun _=>rfl,fun h=>absurd ⟨by omega,fun h=>absurd h.symm c2⟩ h⟩
   obtain⟨og,og1,og2,og3⟩:=hgap
   rw [og1]
   by_cases hg:∀ y∈last,gp y (b0.get (f:Int),(l.take N).map (sf (f + 1)))
   ·rw [og2 hg]
    simp only [Option.bind_some]
    rw [if_pos ⟨by omega,by omega,by omega⟩,List.take_length]
    rw [show (Zg.mk (b0.get (f:Int)) ((l.take N).map (zpre f)))=lastG f (some (b0.get (f:Int),(l.take N).map (sf (f + 1)))) by rw [hzm]; rfl]
    obtain⟨o,o1,o2,o3⟩:=ih n (l.drop N) (some (b0.get (f:Int),(l.take N).map (sf (f + 1)))) (by rw [List.length_drop]; omega) (by omega) (by rw [List.length_drop]; omega) (fun x hx=>hok x (List.mem_of_mem_drop hx)) (fun y hy=>by
     cases hy
     refine⟨s2,by rw [List.length_map]; exact htl,by show 0≤(b0.get (f:Int)).Hi; omega,by show (b0.get (f:Int)).Hi<4294967296; omega,hzl⟩)
    refine⟨o,o1,fun h=>o2 h.2.2.2,fun h=>o3 fun h2=>h ⟨⟨by omega,by omega,by omega⟩,hcf,hg,h2⟩⟩
   ·rw [og3 hg]
    simp only [Option.bind_some]
    exact⟨_,rfl,fun h=>absurd h.2.2.1 hg,fun _=>rfl⟩
theorem Zvo:∀(k f nr:Nat) (l:List Bx),f + k=5→k<nr→l.length≤1000000→(∀ x∈l,BOk x)→∃ r,Zbm nr (f:Int) l=some r∧(r=true ↔ CF (tops5.drop f) (l.map (sf f))):=by
 intro k
 induction k with
 | zero=>
  intro f nr l hf hn hl hok
  have:f=5:=by omega
  subst this
  cases nr with
  | zero=>omega
  | succ nr=>
  rw [Zbm,if_pos (by decide)]
  refine⟨_,rfl,?_⟩
  show _ ↔ (l.map (sf 5)=[]∨l.map (sf 5)=[[]])
  rcases l with _ | ⟨x,_ | ⟨y,l⟩⟩
  ·simp
  ·exact⟨fun _=>Or.inr rfl,fun _=>by simp⟩
  ·constructor
   ·intro h; simp at h; omega
   ·rintro(h | h) <;> simp at h
 | succ k ih=>
  intro f nr l hf hn hl hok
  have hf5:f<5:=by omega
  cases nr with
  | zero=>omega
  | succ nr=>
  rw [Zbm,if_neg (by simp; omega),Zrv hf5,CF_iff]
  obtain⟨o,o1,o2,o3⟩:=Zsa hf5 (z0:=Zbm nr) (fun l hl hok=>ih (f + 1) nr l (by omega) (by omega) hl hok) l.length fuel l none (Nat.le_refl _) (by unfold fuel; omega) hl hok (fun y hy=>(by cases hy))
  rw [show lastG f none=Zfd from rfl] at o1
  rw [o1]
  by_cases h:∃ c,l.map (sf f)=flt c∧Nx (topOf (f:Int)) (tops5.drop (f + 1)) none c
  ·obtain⟨g,rfl⟩:=o2 h
   exact⟨true,rfl,fun _=>h,fun _=>rfl⟩
  ·rw [o3 h]
   exact⟨false,rfl,fun h=>(by cases h),fun h2=>absurd h2 h⟩
structure VS (l:List Bx):Prop where
 len:l.length≤4096
 ok:∀ x∈l,BOk x
 cf:CFb l
theorem VS.of {l:List Bx} (h:CFb l) (hl:l.length≤4096):VS l:=⟨hl,h.ok,h⟩
theorem Zrz {l:List Bx} (hin:∀ x∈l,BIn x):(l.filter vB).length=l.length ↔ ∀ x∈l,BOk x:=by
 rw [List.length_filter_eq_length_iff]
 exact⟨fun h x hx=>vB_ok (hin x hx) (h x hx),fun h x hx=>ok_vB (h x hx)⟩
theorem Zwc {l:List Bx} (hl:l.length≤1000000) (hin:∀ x∈l,BIn x):∃ r,Zdr l=some r∧(r=true ↔ VS l):=by
 unfold Zdr
 by_cases h1:l.length≤4096
 ·have hd:decide ((l.length:Int)≤4096)=true:=by simp; omega
  rw [hd]
  simp only [Option.bind_some,if_true]
  rw [Zrx (by omega)]
  simp only [Option.bind_some]
  by_cases h2:∀ x∈l,BOk x
  ·have he:(((l.filter vB).length:Int) == (l.length:Int))=true:=by rw [(Zrz hin).2 h2]; simp
   rw [he]
   simp only [if_true]
   obtain⟨r,e,g⟩:=Zvo 5 0 fuel l (by omega) (by unfold fuel; omega) hl h2
   rw [show ((0:Nat):Int)=0 from rfl] at e
   rw [e]
   refine⟨r,rfl,g.trans ⟨fun h=>⟨h1,h2,h⟩,fun h=>h.cf⟩⟩
  ·have he:(((l.filter vB).length:Int) == (l.length:Int))=false:=by
    have h3:¬ (l.filter vB).length=l.length:=fun h=>h2 ((Zrz hin).1 h)
    simp only [beq_eq_false_iff_ne,ne_eq]
    omega
   rw [he]
   exact⟨false,rfl,fun h=>(by cases h),fun h=>absurd h.ok h2⟩
 ·have hd:decide ((l.length:Int)≤4096)=false:=by simp; omega
  rw [hd]
  exact⟨false,rfl,fun h=>(by cases h),fun h=>absurd h.len h1⟩
end Go.AM
set_option maxRecDepth 100000
namespace Go.AM
open Go
end Go.AM
set_option maxRecDepth 100000
namespace Go.AM
open Go
def sumL {α:Type} (f:α→Nat) (l:List α):Nat:=l.foldr (fun x n=>f x + n) 0
theorem Zd9 {α:Type} (f:α→Nat) (x:α) (l:List α):sumL f (x :: l)=f x + sumL f l:=rfl
theorem Zl7 {α:Type} (f g:α→Nat) (l:List α):sumL (fun x=>f x + g x) l=sumL f l + sumL g l:=by
 induction l with
 | nil=>rfl
 | cons x l ih=>rw [Zd9,Zd9,Zd9,ih]; omega
theorem Zyd {α:Type} {f g:α→Nat} {l:List α} (h:∀ x∈l,f x≤g x):sumL f l≤sumL g l:=by
 induction l with
 | nil=>exact Nat.le_refl _
 | cons x l ih=>
  rw [Zd9,Zd9]
  have:=h x (List.mem_cons_self ..)
  have:=ih fun y hy=>h y (List.mem_cons_of_mem _ hy)
  omega
theorem Zph {α:Type} (k:Nat) (f:α→Nat) (l:List α):sumL (fun x=>k * f x) l=k * sumL f l:=by
 induction l with
 | nil=>rfl
 | cons x l ih=>rw [Zd9,Zd9,ih,Nat.mul_add]
theorem Zuv {α:Type} (p:α→Bool) (f:α→Nat) (l:List α):sumL (fun x=>if p x=true then f x else 0) l=sumL f (l.filter p):=by
 induction l with
 | nil=>rfl
 | cons x l ih=>
  rw [Zd9,ih,List.filter_cons]
  cases p x
  ·simp
  ·simp [Zd9]
theorem Zqn {α:Type} (k:Nat) (l:List α):sumL (fun _=>k) l=l.length * k:=by
 induction l with
 | nil=>simp [sumL]
 | cons x l ih=>rw [Zd9,ih,List.length_cons,Nat.succ_mul]; omega
theorem Zye (c:List Cell):(flt c).length=sumL (fun x=>x.2.length) c:=by
 induction c with
 | nil=>rfl
 | cons x c ih=>rw [Zg6,List.length_append,List.length_map,ih,Zd9]
theorem Zos (x:Cell) (d:List Cell) (v:Int):(lk (x :: d) v).length=(if inR v x.1=true then x.2.length else 0) + (lk d v).length:=by
 rw [Zhf,List.length_append]
 cases inR v x.1 <;> simp
theorem sum_lk {M:Nat} (vs:List Int):∀(d:List Cell),(∀ x∈d,(vs.filter (inR · x.1)).length≤M)→sumL (fun v=>(lk d v).length) vs≤M * (flt d).length
 | [],_=>by
  have:sumL (fun v=>(lk ([]:List Cell) v).length) vs=0:=by
   rw [show (fun v:Int=>(lk ([]:List Cell) v).length)=fun _=>0 from rfl,Zqn]; simp
  omega
 | x :: d,h=>by
  have e:(fun v=>(lk (x :: d) v).length)=fun v=>(if inR v x.1=true then x.2.length else 0) + (lk d v).length:=funext fun v=>Zos x d v
  have ih:=sum_lk vs d fun y hy=>h y (List.mem_cons_of_mem _ hy)
  have hx:=h x (List.mem_cons_self ..)
  rw [e,Zl7,Zuv (fun v=>inR v x.1),Zqn,Zg6,List.length_append,List.length_map,Nat.mul_add]
  have:=Nat.mul_le_mul_right x.2.length hx
  omega
theorem Zuw (vs:List Int) (d':List Cell):∀(d:List Cell),(∀ x∈d,∀ y∈d',((vs.filter (inR · x.1)).filter (inR · y.1)).length≤1)→sumL (fun v=>(lk d v).length * (lk d' v).length) vs≤(flt d).length * (flt d').length
 | [],_=>by
  have:sumL (fun v=>(lk ([]:List Cell) v).length * (lk d' v).length) vs=0:=by
   rw [show (fun v:Int=>(lk ([]:List Cell) v).length * (lk d' v).length)=fun v=>0 * (lk d' v).length from rfl,Zph]; simp
  omega
 | x :: d,h=>by
  have e:(fun v=>(lk (x :: d) v).length * (lk d' v).length)=fun v=>(if inR v x.1=true then x.2.length * (lk d' v).length else 0) + (lk d v).length * (lk d' v).length:=funext fun v=>by
   rw [Zos,Nat.add_mul]
   cases inR v x.1 <;> simp
  have ih:=Zuw vs d' d fun y hy=>h y (List.mem_cons_of_mem _ hy)
  have h1:=sum_lk (M:=1) (vs.filter (inR · x.1)) d' fun y hy=>h x (List.mem_cons_self ..) y hy
  rw [e,Zl7,Zuv (fun v=>inR v x.1) (fun v=>x.2.length * (lk d' v).length),Zph,Zg6,List.length_append,List.length_map,Nat.add_mul]
  have:=Nat.mul_le_mul_left x.2.length h1
  rw [Nat.one_mul] at this
  omega
theorem Zr0 {l:List Int} (h:l.Pairwise (·<·)):l.Nodup:=h.imp fun h=>by omega
def ends2 (c:List Cell):List Int:=c.flatMap fun x=>[x.1.Lo,x.1.Hi + 1]
theorem Zwd (c:List Cell):(ends2 c).length=2 * c.length:=by
 induction c with
 | nil=>rfl
 | cons x c ih=>unfold ends2 at *; rw [List.flatMap_cons,List.length_append,ih]; simp; omega
theorem Zpi {t:Int} {c:List Cell} (h:Ord t c) {x:Cell} (hx:x∈c) {v:Int} (hv:v∈ends2 c) (hr:inR v x.1=true):v=x.1.Lo:=by
 rw [Zc1] at hr
 obtain⟨y,hy,hvy⟩:=List.mem_flatMap.1 hv
 have hxo:=h.ok x hx
 have hyo:=h.ok y hy
 obtain⟨i,hi,rfl⟩:=List.getElem_of_mem hx
 obtain⟨j,hj,rfl⟩:=List.getElem_of_mem hy
 have hp:=List.pairwise_iff_getElem.1 h.pw
 simp only [List.mem_cons,List.not_mem_nil,or_false] at hvy
 rcases Nat.lt_trichotomy i j with h1 | h1 | h1
 ·have:=(hp i j hi hj h1).1
  omega
 ·subst h1; omega
 ·have:=(hp j i hj hi h1).1
  omega
theorem Zux {t:Int} {c:List Cell} (h:Ord t c) {v:Int} (hv:¬ v∈ends2 c):lk c v=lk c (v - 1):=by
 have key:∀ x∈c,x.1.Lo ≠ v∧x.1.Hi + 1 ≠ v:=fun x hx=>⟨fun e=>hv (List.mem_flatMap.2 ⟨x,hx,by simp [e]⟩),fun e=>hv (List.mem_flatMap.2 ⟨x,hx,by simp [e]⟩)⟩
 clear h hv
 induction c with
 | nil=>rfl
 | cons x c ih=>
  rw [Zhf,Zhf,ih fun y hy=>key y (List.mem_cons_of_mem _ hy)]
  have:=key x (List.mem_cons_self ..)
  have e:inR v x.1=inR (v - 1) x.1:=by rw [Bool.eq_iff_iff,Zc1,Zc1]; omega
  rw [e]
theorem Zqo {op:Bool→Bool→Bool} (hff:op false false=false):∀(ts:List Int) {a b l:List RL},CF ts a→CF ts b→Is op ts a b l→l.length≤4 * ts.length * (a.length * b.length) + a.length + b.length
 | [],a,b,l,ha,hb,h=>by
  have hm:=h.mem [] trivial
  rcases ha with rfl | rfl <;> rcases hb with rfl | rfl <;> rcases h.cf with rfl | rfl <;> simp [mS,mB,hff] at hm ⊢
 | t :: ts,a,b,l,ha,hb,h=>by
  obtain⟨ca,rfl,hao,hac⟩:=ha
  obtain⟨cb,rfl,hbo,hbc⟩:=hb
  obtain⟨c,rfl,ho,hc⟩:=h.cf
  have hat:∀ v,0≤v→v≤t→Is op ts (lk ca v) (lk cb v) (lk c v):=fun v h0 h1=>by
   have:=Is.at_ ho hc h h0 h1
   rw [Zj5,Zj5] at this
   exact this
  have hvs:(c.map (·.1.Lo)).Pairwise (·<·):=by
   rw [List.pairwise_map]
   refine List.Pairwise.imp_of_mem ?_ ho.pw
   intro x y hx _ hg
   have:=ho.ok x hx
   have:=hg.1
   omega
  have hin:∀ v∈c.map (·.1.Lo),v∈ends2 ca∨v∈ends2 cb:=by
   intro v hv
   obtain⟨x,hx,rfl⟩:=List.mem_map.1 hv
   have hxo:=ho.ok x hx
   apply Classical.byContradiction
   intro hn
   have h1:¬ x.1.Lo∈ends2 ca:=fun h=>hn (Or.inl h)
   have h2:¬ x.1.Lo∈ends2 cb:=fun h=>hn (Or.inr h)
   have e1:=Zux hao h1
   have e2:=Zux hbo h2
   have hx1:lk c x.1.Lo=x.2:=lk_mem ho hx (Int.le_refl _) hxo.2.1
   have g1:=hat x.1.Lo hxo.1 (by omega)
   by_cases h0:x.1.Lo=0
   ·rw [e1,e2,lk_out hao (by omega),lk_out hbo (by omega)] at g1
    have:lk c x.1.Lo=[]:=g1.inj ⟨CF_nil _,fun p _=>by rw [mS_nil,hff]⟩
    rw [hx1] at this
    exact hxo.2.2.2 this
   ·have g2:=hat (x.1.Lo - 1) (by omega) (by omega)
    rw [e1,e2] at g1
    have e3:=g1.inj g2
    rw [hx1] at e3
    obtain⟨y,hy,h3,h4⟩:=Zns (c:=c) (v:=x.1.Lo - 1) (by rw [← e3]; exact hxo.2.2.2)
    rw [lk_mem ho hy h3 h4] at e3
    obtain⟨i,hi,rfl⟩:=List.getElem_of_mem hx
    obtain⟨j,hj,rfl⟩:=List.getElem_of_mem hy
    have hp:=List.pairwise_iff_getElem.1 ho.pw
    rcases Nat.lt_trichotomy i j with h5 | h5 | h5
    ·have:=(hp i j hi hj h5).1; omega
    ·subst h5; omega
    ·have hg:=hp j i hj hi h5
     have:=hg.1
     exact hg.2 (by omega) e3.symm
  generalize hV:c.map (·.1.Lo)=vs at hvs hin
  have cnt:∀ {d d':List Cell},Ord t d→(∀ v∈vs,v∈ends2 d∨v∈ends2 d')→∀ x∈d,(vs.filter (inR · x.1)).length≤2 * d'.length + 1:=by
   intro d d' hd hdv x hx
   have hs:(vs.filter (inR · x.1)) ⊆ x.1.Lo :: ends2 d':=by
    intro v hv
    obtain⟨h1,h2⟩:=List.mem_filter.1 hv
    rcases hdv v h1 with h3 | h3
    ·rw [Zpi hd hx h3 h2]; exact List.mem_cons_self ..
    ·exact List.mem_cons_of_mem _ h3
   have:=List.Nodup.length_le_of_subset (Zr0 (hvs.filter _)) hs
   rw [List.length_cons,Zwd] at this
   exact this
  have s1:=sum_lk vs ca (cnt hao hin)
  have s2:=sum_lk vs cb (cnt hbo fun v hv=>(hin v hv).symm)
  have s3:=Zuw vs cb ca (fun x hx y hy=>by
   have hs:((vs.filter (inR · x.1)).filter (inR · y.1)) ⊆ [max x.1.Lo y.1.Lo]:=by
    intro v hv
    obtain⟨h1,h2⟩:=List.mem_filter.1 hv
    obtain⟨h3,h4⟩:=List.mem_filter.1 h1
    have h2':=Zc1.1 h2
    have h4':=Zc1.1 h4
    rw [List.mem_singleton]
    rcases hin v h3 with h5 | h5
    ·have:=Zpi hao hx h5 h4; omega
    ·have:=Zpi hbo hy h5 h2; omega
   have:=List.Nodup.length_le_of_subset (Zr0 ((hvs.filter _).filter _)) hs
   simpa using this)
  have total:(flt c).length≤sumL (fun v=>4 * ts.length * ((lk ca v).length * (lk cb v).length) + (lk ca v).length + (lk cb v).length) vs:=by
   rw [Zye,← hV]
   have e:∀(d:List Cell) (f:Int→Nat),sumL f (d.map (·.1.Lo))=sumL (fun x=>f x.1.Lo) d:=by
    intro d f
    induction d with
    | nil=>rfl
    | cons x d ih=>rw [List.map_cons,Zd9,Zd9,ih]
   rw [e]
   refine Zyd fun x hx=>?_
   have hxo:=ho.ok x hx
   have g1:=hat x.1.Lo hxo.1 (by omega)
   rw [lk_mem ho hx (Int.le_refl _) hxo.2.1] at g1
   exact Zqo hff ts (CF_lk hao hac _) (CF_lk hbo hbc _) g1
  rw [Zl7,Zl7,Zph] at total
  have la:=hao.len
  have lb:=hbo.len
  have m3:=Nat.mul_le_mul_left (4 * ts.length) s3
  have n1:(2 * cb.length + 1) * (flt ca).length≤(2 * (flt cb).length + 1) * (flt ca).length:=Nat.mul_le_mul_right _ (by omega)
  have n2:(2 * ca.length + 1) * (flt cb).length≤(2 * (flt ca).length + 1) * (flt cb).length:=Nat.mul_le_mul_right _ (by omega)
  rw [Nat.add_mul,Nat.one_mul] at n1 n2
  have c1:2 * (flt cb).length * (flt ca).length=2 * ((flt ca).length * (flt cb).length):=by rw [Nat.mul_assoc,Nat.mul_comm (flt cb).length]
  have c2:2 * (flt ca).length * (flt cb).length=2 * ((flt ca).length * (flt cb).length):=by rw [Nat.mul_assoc]
  have n1':(2 * cb.length + 1) * (flt ca).length≤(2 * (flt cb).length) * (flt ca).length + (flt ca).length:=by
   have:=Nat.mul_le_mul_right (flt ca).length (show 2 * cb.length + 1≤2 * (flt cb).length + 1 by omega)
   rw [Nat.add_mul (2 * (flt cb).length),Nat.one_mul] at this
   exact this
  have n2':(2 * ca.length + 1) * (flt cb).length≤(2 * (flt ca).length) * (flt cb).length + (flt cb).length:=by
   have:=Nat.mul_le_mul_right (flt cb).length (show 2 * ca.length + 1≤2 * (flt ca).length + 1 by omega)
   rw [Nat.add_mul (2 * (flt ca).length),Nat.one_mul] at this
   exact this
  rw [c1] at n1'
  rw [c2] at n2'
  have fin:4 * (t :: ts).length * ((flt ca).length * (flt cb).length)=4 * ts.length * ((flt ca).length * (flt cb).length) + 4 * ((flt ca).length * (flt cb).length):=by
   rw [List.length_cons,Nat.mul_add,Nat.add_mul]
  omega
theorem Can.size {op:Bool→Bool→Bool} (hff:op false false=false) {a b l:List Bx} (ha:CFb a) (hb:CFb b) (h:Can op a b l):l.length≤20 * (a.length * b.length) + a.length + b.length:=by
 have:=Zqo hff tops5 ha hb h.is
 rw [List.length_map,List.length_map,List.length_map] at this
 exact this
end Go.AM
set_option maxRecDepth 100000
namespace Go.AM
open Go
noncomputable def can (op:Bool→Bool→Bool) (a b:List Bx):List Bx:=(Can.ex op a b).choose
theorem Zf9 (op:Bool→Bool→Bool) (a b:List Bx):Can op a b (can op a b):=(Can.ex op a b).choose_spec
theorem Can.eq {op:Bool→Bool→Bool} {a b l:List Bx} (h:Can op a b l):can op a b=l:=(Zf9 op a b).inj h
def oO (x y:Bool):Bool:=x || y
def oA (x y:Bool):Bool:=x && y
def oW (x y:Bool):Bool:=x && !y
theorem Zr1:∀(ts:List Int) {b:RL},vR ts b→CF ts [b]
 | [],b,h=>by
  cases b with
  | nil=>exact .inr rfl
  | cons _ _=>exact h.elim
 | t :: ts,b,h=>by
  cases b with
  | nil=>exact h.elim
  | cons r b=>
   obtain⟨h0,h1,h2,h3⟩:=h
   refine⟨[(r,[b])],rfl,⟨List.pairwise_singleton ..,fun x hx=>?_⟩,fun x hx=>?_⟩
   ·rw [List.mem_singleton] at hx; subst hx; exact⟨h0,h1,h2,List.cons_ne_nil _ _⟩
   ·rw [List.mem_singleton] at hx; subst hx; exact Zr1 ts h3
theorem ok_vR {b:Bx} (h:BOk b):vR tops5 (toL b):=
 ⟨h.h0.h0,h.h0.h1,h.h0.h2,h.h1.h0,h.h1.h1,h.h1.h2,h.h2.h0,h.h2.h1,h.h2.h2,h.h3.h0,h.h3.h1,h.h3.h2,h.h4.h0,h.h4.h1,h.h4.h2,trivial⟩
theorem CFb.single {b:Bx} (h:BOk b):CFb [b]:=Zr1 tops5 (ok_vR h)
noncomputable def mkF:List Bx→List Bx→List Bx × Int
 | s,[]=>(s,0)
 | s,b :: l=>if (can oO s [b]).length≤4096 then mkF (can oO s [b]) l else ([],3)
noncomputable def mk (l:List Bx):List Bx × Int:=mkF [] (l.filter vB)
theorem combO {a b:List Bx} (hl:a.length + b.length≤400000) (ha:∀ x∈a,BOk x) (hb:∀ x∈b,BOk x):Zbk a b=some (capB (can oO a b)):=Zra hl ha hb (Zf9 oO a b)
theorem Zyf (r:List Bx) (hr:r.length≤1000000) (hok:∀ x∈r,BOk x):∀(K i n:Nat) (s:List Bx),r.length - i=K→K<n→VS s→i≤r.length→∃ o,Zdb r n s (i:Int)=some o∧mkF s (r.drop i)=match o with
   | .inl v=>(v,0)
   | .inr z=>z:=by
 intro K
 induction K with
 | zero=>
  intro i n s hK hn hs hi
  cases n with
  | zero=>omega
  | succ n=>
  rw [Zdb,if_neg (by simp; omega),List.drop_eq_nil_of_le (by omega)]
  exact⟨_,rfl,rfl⟩
 | succ K ih=>
  intro i n s hK hn hs hi
  cases n with
  | zero=>omega
  | succ n=>
  have hil:i<r.length:=by omega
  have hb:=hok _ (List.getElem_mem hil)
  have hsl:=hs.len
  rw [Zdb,if_pos (by simp; omega),Zbh hil]
  simp only [Option.bind_some]
  rw [combO (by simp; omega) hs.ok (fun x hx=>by rw [List.mem_singleton] at hx; rw [hx]; exact hb)]
  rw [List.drop_eq_getElem_cons hil]
  simp only [Option.bind_some,capB,mkF]
  by_cases h:(can oO s [r[i]]).length≤4096
  ·rw [if_pos h,if_pos h]
   simp only [bne_self_eq_false,Bool.false_eq_true,if_false]
   rw [wsucc (by omega)]
   exact ih (i + 1) n _ (by omega) (by omega) (VS.of (Zf9 oO s [r[i]]).cf h) (by omega)
  ·rw [if_neg h,if_neg h]
   exact⟨_,rfl,rfl⟩
theorem VS.nil:VS []:=⟨by simp,fun _ h=>(by cases h),CFb.nil⟩
theorem Ztj {l:List Bx} (hl:l.length≤1000000) (hin:∀ x∈l,BIn x):Zeu l=some (mk l):=by
 unfold Zeu
 rw [Zrx (by omega)]
 simp only [Option.bind_some]
 have hfl:=List.length_filter_le vB l
 obtain⟨o,e,g⟩:=Zyf (l.filter vB) (by omega) (fun x hx=>by
  obtain⟨h1,h2⟩:=List.mem_filter.1 hx
  exact vB_ok (hin x h1) h2) _ 0 fuel [] rfl (by unfold fuel; omega) VS.nil (by omega)
 rw [show ((0:Nat):Int)=0 from rfl] at e
 rw [e]
 rw [List.drop_zero] at g
 unfold mk
 rw [g]
 cases o <;> rfl
noncomputable def vSb (l:List Bx):Bool:=@decide (VS l) (Classical.propDecidable _)
theorem Znw {l:List Bx}:vSb l=true ↔ VS l:=by unfold vSb; exact @decide_eq_true_iff _ (Classical.propDecidable _)
theorem Zyg {r:Bool} {p:Prop} {q:Bool} (h1:r=true ↔ p) (h2:q=true ↔ p):r=q:=by
 rw [Bool.eq_iff_iff,h1,h2]
theorem pVal {l:List Bx} (hl:l.length≤300000) (hin:∀ x∈l,BIn x):Zdr l=some (vSb l):=by
 obtain⟨r,e,g⟩:=Zwc (by omega) hin
 rw [e,Zyg g Znw]
noncomputable def st (l:List Bx):List Bx × Int:=if vSb l=true then (l,0) else mk l
theorem Zj6 {l:List Bx} (hl:l.length≤300000) (hin:∀ x∈l,BIn x):Zcx l=some (st l):=by
 unfold Zcx st
 rw [pVal hl hin]
 simp only [Option.bind_some]
 split
 ·rfl
 ·rw [Ztj (by omega) hin]; rfl
theorem Zuy (a b:List Bx) (p:List Int):mem (a++b) p=(mem a p || mem b p):=by unfold mem; rw [List.map_append,mS_app]
structure SetOr (r:List Bx × Int):Prop where
 vs:VS r.1
 err:r.2=0∨r=([],3)
theorem mkF_ok:∀(l s:List Bx),VS s→SetOr (mkF s l)∧((mkF s l).2=0→∀ p,vP tops5 p→mem (mkF s l).1 p=(mem s p || mem l p))
 | [],s,hs=>⟨⟨hs,Or.inl rfl⟩,fun _ p _=>by rw [Zgo,Bool.or_false]; rfl⟩
 | b :: l,s,hs=>by
  simp only [mkF]
  by_cases h:(can oO s [b]).length≤4096
  ·rw [if_pos h]
   have hC:=Zf9 oO s [b]
   obtain⟨g1,g2⟩:=mkF_ok l (can oO s [b]) (VS.of hC.cf h)
   refine⟨g1,fun h0 p hp=>?_⟩
   rw [g2 h0 p hp,hC.mem p hp,show b :: l=[b]++l from rfl,Zuy [b] l,oO,Bool.or_assoc]
  ·rw [if_neg h]
   exact⟨⟨VS.nil,Or.inr rfl⟩,fun h=>by cases h⟩
theorem st_ok (l:List Bx):SetOr (st l)∧((st l).2=0→∀ p,vP tops5 p→mem (st l).1 p=mem (l.filter vB) p):=by
 unfold st
 by_cases h:vSb l=true
 ·rw [if_pos h]
  have hv:=Znw.1 h
  refine⟨⟨hv,Or.inl rfl⟩,fun _ p _=>?_⟩
  rw [List.filter_eq_self.2 fun x hx=>ok_vB (hv.ok x hx)]
 ·rw [if_neg h]
  obtain⟨g1,g2⟩:=mkF_ok (l.filter vB) [] VS.nil
  exact⟨g1,fun h0 p hp=>by unfold mk; rw [g2 h0 p hp,Zgo,Bool.false_or]⟩
theorem Zh6 {l:List Bx} (h:VS l):st l=(l,0):=by unfold st; rw [if_pos (Znw.2 h)]
noncomputable def cmb (op:Bool→Bool→Bool) (a b:List Bx):List Bx × Int:=
 if (st a).2 ≠ 0 then ([],(st a).2) else if (st b).2 ≠ 0 then ([],(st b).2) else capB (can op (st a).1 (st b).1)
theorem Zyh {op:Bool→Bool→Bool} {a b:List Bx}:SetOr (capB (can op a b)):=by
 unfold capB
 by_cases h:(can op a b).length≤4096
 ·rw [if_pos h]; exact⟨VS.of (Zf9 op a b).cf h,Or.inl rfl⟩
 ·rw [if_neg h]; exact⟨VS.nil,Or.inr rfl⟩
theorem SetOr.three {r:List Bx × Int} (h:SetOr r) (hr:r.2 ≠ 0):r=([],3):=h.err.resolve_left hr
theorem cmb_ok (op:Bool→Bool→Bool) (a b:List Bx):SetOr (cmb op a b)∧((cmb op a b).2=0→∀ p,vP tops5 p→mem (cmb op a b).1 p=op (mem (a.filter vB) p) (mem (b.filter vB) p)):=by
 have ha:=st_ok a
 have hb:=st_ok b
 unfold cmb
 by_cases h1:(st a).2 ≠ 0
 ·rw [if_pos h1,ha.1.three h1]; exact⟨⟨VS.nil,Or.inr rfl⟩,fun h=>by cases h⟩
 ·rw [if_neg h1]
  by_cases h2:(st b).2 ≠ 0
  ·rw [if_pos h2,hb.1.three h2]; exact⟨⟨VS.nil,Or.inr rfl⟩,fun h=>by cases h⟩
  ·rw [if_neg h2]
   refine⟨Zyh,fun h0 p hp=>?_⟩
   have hc:=Zf9 op (st a).1 (st b).1
   unfold capB at h0 ⊢
   split at h0
   ·rename_i h
    rw [if_pos h]
    show mem (can op (st a).1 (st b).1) p=_
    rw [hc.mem p hp,ha.2 (by simpa using h1) p hp,hb.2 (by simpa using h2) p hp]
   ·cases h0
theorem Zwe {a b:List Bx} (ha:a.length≤300000) (hb:b.length≤300000) (hai:∀ x∈a,BIn x) (hbi:∀ x∈b,BIn x):Zfh a b=some (cmb oO a b):=by
 have sa:=(st_ok a).1.vs
 have sb:=(st_ok b).1.vs
 have la:=sa.len
 have lb:=sb.len
 unfold Zfh Zei cmb
 rw [Zj6 ha hai]
 simp only [Option.bind_some,bne_iff_ne]
 split
 ·rfl
 ·rw [Zj6 hb hbi]
  simp only [Option.bind_some]
  split
  ·rfl
  ·rw [combO (by omega) sa.ok sb.ok]
   rfl
theorem Zmg {a b:List Bx} (ha:a.length≤300000) (hb:b.length≤300000) (hai:∀ x∈a,BIn x) (hbi:∀ x∈b,BIn x):Zdg a b=some (cmb oA a b):=by
 have sa:=(st_ok a).1.vs
 have sb:=(st_ok b).1.vs
 have la:=sa.len
 have lb:=sb.len
 unfold Zdg Zex cmb
 rw [Zj6 ha hai]
 simp only [Option.bind_some,bne_iff_ne]
 split
 ·rfl
 ·rw [Zj6 hb hbi]
  simp only [Option.bind_some]
  split
  ·rfl
  ·rw [Zti (by omega) sa.ok sb.ok (Zf9 oA _ _)]
   rfl
theorem Ztk {a b:List Bx} (ha:a.length≤300000) (hb:b.length≤300000) (hai:∀ x∈a,BIn x) (hbi:∀ x∈b,BIn x):Zeh a b=some (cmb oW a b):=by
 have sa:=(st_ok a).1.vs
 have sb:=(st_ok b).1.vs
 have la:=sa.len
 have lb:=sb.len
 unfold Zeh Zea cmb
 rw [Zj6 ha hai]
 simp only [Option.bind_some,bne_iff_ne]
 split
 ·rfl
 ·rw [Zj6 hb hbi]
  simp only [Option.bind_some]
  split
  ·rfl
  ·rw [Zqm (by omega) sa.ok sb.ok (Zf9 oW _ _)]
   rfl
theorem Zxf (a:List Bx):cmb oO a []=st a:=by
 have ha:=st_ok a
 unfold cmb
 rw [Zh6 VS.nil]
 by_cases h1:(st a).2 ≠ 0
 ·rw [if_pos h1,ha.1.three h1]
 ·rw [if_neg h1,if_neg (by simp)]
  have:can oO (st a).1 []=(st a).1:=(Can.right (fun x=>by cases x <;> rfl) ha.1.vs.cf).eq
  rw [this]
  unfold capB
  rw [if_pos ha.1.vs.len]
  have h2:(st a).2=0:=by simpa using h1
  rw [← h2]
end Go.AM
set_option maxRecDepth 100000
namespace Go.AM
open Go
end Go.AM
set_option maxRecDepth 100000
namespace Go.AM
open Go
structure InL (l:List Bx):Prop where
 len:l.length≤300000
 bin:∀ x∈l,BIn x
theorem VS.inL {l:List Bx} (h:VS l):InL l:=⟨by have:=h.len; omega,fun x hx=>(h.ok x hx).bin⟩
theorem InL.one {b:Bx} (h:BIn b):InL [b]:=⟨by simp,fun x hx=>by rw [List.mem_singleton] at hx; rw [hx]; exact h⟩
def kp (e:Bool) (r:List Bx × Int):List Bx × Bool:=if e=true∨r.2 ≠ 0 then ([],true) else (r.1,false)
def le (e:Bool):Zn:=⟨if e=true then 3 else 0⟩
noncomputable def uU (e:Bool) (a b:List Bx):=kp e (cmb oO a b)
noncomputable def uI (e:Bool) (a b:List Bx):=kp e (cmb oA a b)
noncomputable def uS (e:Bool) (a b:List Bx):=kp e (cmb oW a b)
theorem kp_vs {e:Bool} {r:List Bx × Int} (h:SetOr r):VS (kp e r).1∧((kp e r).2=true→(kp e r).1=[]):=by
 unfold kp
 split
 ·exact⟨VS.nil,fun _=>rfl⟩
 ·exact⟨h.vs,fun h=>by cases h⟩
theorem Znx {e:Bool} {r:List Bx × Int} (h:SetOr r):Zcb (le e) r.1 r.2=some ((kp e r).1,le (kp e r).2):=by
 unfold Zcb kp le
 cases e with
 | true=>simp
 | false=>
  by_cases h0:r.2=0
  ·simp [h0]
  ·rw [h.three h0]; simp
theorem lU_eq {e:Bool} {a b:List Bx} (ha:InL a) (hb:InL b):Zc8 (le e) a b=some ((uU e a b).1,le (uU e a b).2):=by
 unfold Zc8 uU
 rw [Zwe ha.len hb.len ha.bin hb.bin]
 simp only [Option.bind_some]
 rw [Znx (cmb_ok _ _ _).1]; rfl
theorem lI_eq {e:Bool} {a b:List Bx} (ha:InL a) (hb:InL b):Zc5 (le e) a b=some ((uI e a b).1,le (uI e a b).2):=by
 unfold Zc5 uI
 rw [Zmg ha.len hb.len ha.bin hb.bin]
 simp only [Option.bind_some]
 rw [Znx (cmb_ok _ _ _).1]; rfl
theorem lS_eq {e:Bool} {a b:List Bx} (ha:InL a) (hb:InL b):Zdc (le e) a b=some ((uS e a b).1,le (uS e a b).2):=by
 unfold Zdc uS
 rw [Ztk ha.len hb.len ha.bin hb.bin]
 simp only [Option.bind_some]
 rw [Znx (cmb_ok _ _ _).1]; rfl
theorem uU_vs (e:Bool) (a b:List Bx):VS (uU e a b).1∧((uU e a b).2=true→(uU e a b).1=[]):=kp_vs (cmb_ok _ _ _).1
theorem uI_vs (e:Bool) (a b:List Bx):VS (uI e a b).1∧((uI e a b).2=true→(uI e a b).1=[]):=kp_vs (cmb_ok _ _ _).1
theorem uS_vs (e:Bool) (a b:List Bx):VS (uS e a b).1∧((uS e a b).2=true→(uS e a b).1=[]):=kp_vs (cmb_ok _ _ _).1
theorem uU_nil {e:Bool} {a:List Bx} (ha:VS a) (he:e=true→a=[]):uU e a []=(a,e):=by
 unfold uU
 rw [Zxf,Zh6 ha]
 unfold kp
 cases e with
 | true=>rw [if_pos (Or.inl rfl),he rfl]
 | false=>rw [if_neg (by simp)]
theorem Zuz {s:List Bx} (hs:InL s):Zdf Zdh s=some ((kp false (st s)).1,le (kp false (st s)).2):=by
 unfold Zdf
 rw [pVal hs.len hs.bin]
 simp only [Option.bind_some]
 by_cases h:vSb s=true
 ·rw [if_pos h,Zh6 (Znw.1 h)]; rfl
 ·rw [if_neg h,Ztj (by have:=hs.len; omega) hs.bin]
  have e:st s=mk s:=by unfold st; rw [if_neg h]
  have ho:SetOr (mk s):=e ▸ (st_ok s).1
  simp only [Option.bind_some]
  rw [show Zdh=le false from rfl,Znx ho,e]
  rfl
def badB:Bx:=⟨⟨1,0⟩,Zr,Zr,Zr,Zr⟩
def frm (m:Zk):Bx:=if vM m=true then m.From else badB
theorem vB_bad:vB badB=false:=by decide
theorem Zrb {m:Zk} (h:vM m=true):vB m.From=true∧vB m.To=true:=by
 unfold vM at h
 simp only [Bool.and_eq_true] at h
 exact h.1
theorem frm_v (m:Zk):vB (frm m)=vM m:=by
 unfold frm
 by_cases h:vM m=true
 ·rw [if_pos h,h,(Zrb h).1]
 ·rw [if_neg h,vB_bad]; simpa using h
theorem Zu0 {l:List Zk} (hl:l.length≤100000):Zfl l=some (l.map frm):=by
 unfold Zfl
 have:=Zfj (L:=Zdq l) l (fun s _ x=>s++[frm x]) id (fun i s=>s.length=i) (by omega) (fun n s i hi hs=>by
  rw [Zdq]
  simp only [show ((i:Int)<(l.length:Int)) from by omega,decide_true,if_true,Zbh hi,Option.bind_some,Zis,wsucc (by omega:i<1000000000001),List.length_singleton]
  by_cases h:vM l[i]=true
  ·have e:frm l[i]=(l[i]).From:=by unfold frm; rw [if_pos h]
   rw [h,e]
   simp only [Bool.not_true,Bool.false_eq_true,if_false,Option.bind_some]
   rw [if_pos (show s.length + 1≤lim by unfold lim; omega)]
   exact⟨rfl,by simp [hs]⟩
  ·have e:frm l[i]=badB:=by unfold frm; rw [if_neg h]
   rw [Bool.not_eq_true] at h
   rw [h,e]
   simp only [Bool.not_false,if_true,Option.bind_some]
   rw [if_pos (show s.length + 1≤lim by unfold lim; omega)]
   exact⟨rfl,by simp [hs]⟩) (fun n s hs=>by rw [Zdq]; simp) [] rfl
 rw [this.1,Zna]
 rfl
abbrev PSt:=Bool × List (List Bx) × List Bx
noncomputable def pstepB (s:PSt) (b:Bx):PSt:=if vB b=true then ((uS (uI s.1 s.2.2 [b]).2 s.2.2 [b]).2,s.2.1++[(uI s.1 s.2.2 [b]).1],(uS (uI s.1 s.2.2 [b]).2 s.2.2 [b]).1) else (s.1,s.2.1++[[]],s.2.2)
theorem Ztl {α σ:Type} (f:σ→α→σ):∀(l:List α) (s:σ) (i:Nat),foldI (fun s _ x=>f s x) s i l=l.foldl f s
 | [],_,_=>rfl
 | x :: l,s,i=>by simp only [foldI,List.foldl_cons]; exact Ztl f l _ _
noncomputable def partsR:Bool→List Bx→List Bx→List (List Bx) × List Bx × Bool
 | e,s,[]=>([],s,e)
 | e,s,b :: l=>if vB b=true then ((uI e s [b]).1 :: (partsR (uS (uI e s [b]).2 s [b]).2 (uS (uI e s [b]).2 s [b]).1 l).1,(partsR (uS (uI e s [b]).2 s [b]).2 (uS (uI e s [b]).2 s [b]).1 l).2) else ([] :: (partsR e s l).1,(partsR e s l).2)
theorem Zl8:∀(l:List Bx) (e:Bool) (out:List (List Bx)) (s:List Bx),l.foldl pstepB (e,out,s)=((partsR e s l).2.2,out++(partsR e s l).1,(partsR e s l).2.1)
 | [],e,out,s=>by simp [partsR]
 | b :: l,e,out,s=>by
  rw [List.foldl_cons]
  by_cases h:vB b=true
  ·rw [show pstepB (e,out,s) b=((uS (uI e s [b]).2 s [b]).2,out++[(uI e s [b]).1],(uS (uI e s [b]).2 s [b]).1) by unfold pstepB; rw [if_pos h],Zl8 l]
   simp only [partsR,if_pos h,List.append_assoc,List.singleton_append]
  ·rw [show pstepB (e,out,s) b=(e,out++[[]],s) by unfold pstepB; rw [if_neg h],Zl8 l]
   simp only [partsR,if_neg h,List.append_assoc,List.singleton_append]
theorem Zwf {s:PSt} {b:Bx} (h:VS s.2.2):VS (pstepB s b).2.2∧(pstepB s b).2.1.length=s.2.1.length + 1:=by
 unfold pstepB
 split
 ·exact⟨(uS_vs _ _ _).1,by simp⟩
 ·exact⟨h,by simp⟩
theorem Ztm {ms:List Bx} (hm:ms.length≤100000) (hin:∀ x∈ms,BIn x) {e:Bool} {s:List Bx} (hs:VS s):Zc7 (le e) ms s=some ((partsR e s ms).1,(partsR e s ms).2.1,le (partsR e s ms).2.2):=by
 unfold Zc7
 have:=Zfj (L:=fun n (s:PSt) i=>Za8 ms n (le s.1) s.2.1 s.2.2 i) ms (fun s _ x=>pstepB s x) (fun s=>(le s.1,s.2.1,s.2.2)) (fun i s=>s.2.1.length=i∧VS s.2.2) (by omega) (fun n s i hi hs=>by
  show Za8 ms (n + 1) (le s.1) s.2.1 s.2.2 (i:Int)=_∧_
  have hb:=hin _ (List.getElem_mem hi)
  have hp:=Zwf (b:=ms[i]) hs.2
  refine⟨?_,by rw [hp.2,hs.1],hp.1⟩
  rw [Za8]
  simp only [show ((i:Int)<(ms.length:Int)) from by omega,decide_true,if_true,Zbh hi,Option.bind_some,Zkj,wsucc (by omega:i<1000000000001),List.length_singleton]
  unfold pstepB
  by_cases h:vB ms[i]=true
  ·rw [if_pos h,h]
   simp only [Bool.not_true,Bool.false_eq_true,if_false]
   rw [lI_eq hs.2.inL (InL.one hb)]
   simp only [Option.bind_some]
   rw [if_pos (show s.2.1.length + 1≤lim by rw [hs.1]; unfold lim; omega),lS_eq hs.2.inL (InL.one hb)]
   rfl
  ·rw [if_neg h]
   rw [Bool.not_eq_true] at h
   rw [h]
   simp only [Bool.not_false,if_true]
   rw [if_pos (show s.2.1.length + 1≤lim by rw [hs.1]; unfold lim; omega)]
   rfl) (fun n s hs=>by
  show Za8 ms (n + 1) (le s.1) s.2.1 s.2.2 (ms.length:Int)=_
  rw [Za8]; simp) (e,[],s) ⟨rfl,hs⟩
 have h1:=this.1
 simp only at h1
 rw [h1,Ztl pstepB,Zl8]
 rfl
theorem Zk0:∀(l:List Bx) (e:Bool) (s:List Bx),(partsR e s l).1.length=l.length
 | [],_,_=>rfl
 | b :: l,e,s=>by
  simp only [partsR]
  split
  ·simp only [List.length_cons]; rw [Zk0 l]
  ·simp only [List.length_cons]; rw [Zk0 l]
theorem Zkk:∀(l:List Bx) (e:Bool) (s:List Bx),VS s→(∀ x∈(partsR e s l).1,VS x)∧VS (partsR e s l).2.1
 | [],_,_,h=>⟨fun _ h=>(by cases h),h⟩
 | b :: l,e,s,h=>by
  simp only [partsR]
  split
  ·have ih:=Zkk l (uS (uI e s [b]).2 s [b]).2 (uS (uI e s [b]).2 s [b]).1 (uS_vs _ _ _).1
   exact⟨fun x hx=>(List.mem_cons.1 hx).elim (fun h=>h ▸ (uI_vs _ _ _).1) (ih.1 x),ih.2⟩
  ·have ih:=Zkk l e s h
   exact⟨fun x hx=>(List.mem_cons.1 hx).elim (fun h=>h ▸ VS.nil) (ih.1 x),ih.2⟩
theorem Znk:∀(l:List Bx) (e:Bool) (s:List Bx) (i:Nat) (h:i<l.length),vB l[i]=false→(partsR e s l).1[i]? = some []
 | [],_,_,_,h,_=>by simp at h
 | b :: l,e,s,0,_,hv=>by
  simp only [List.getElem_cons_zero] at hv
  simp only [partsR,hv,Bool.false_eq_true,if_false,List.getElem?_cons_zero]
 | b :: l,e,s,i + 1,h,hv=>by
  simp only [List.getElem_cons_succ] at hv
  simp only [partsR]
  split
  ·simp only [List.getElem?_cons_succ]; exact Znk l _ _ i (by simpa using h) hv
  ·simp only [List.getElem?_cons_succ]; exact Znk l _ _ i (by simpa using h) hv
def shM (m:Zk) (s:List Bx):List Bx:=s.map fun b=>shB b m.From m.To
theorem shr_in (a f t:Zb):RIn (shr a f t):=by
 have h1:=Zdz (IntKind.wrap .u32 (a.Lo - f.Lo) + t.Lo)
 have h2:=Zdz (IntKind.wrap .u32 (a.Hi - f.Lo) + t.Lo)
 exact⟨h1.1,h1.2,h2.1,h2.2⟩
theorem shB_in (a f t:Bx):BIn (shB a f t):=⟨shr_in _ _ _,shr_in _ _ _,shr_in _ _ _,shr_in _ _ _,shr_in _ _ _⟩
theorem shM_in {m:Zk} {s:List Bx} (h:s.length≤300000):InL (shM m s):=⟨by unfold shM; rw [List.length_map]; exact h,fun x hx=>by
 obtain⟨y,_,rfl⟩:=List.mem_map.1 hx
 exact shB_in _ _ _⟩
theorem Zua {m:Zk} {s v:List Bx} {i:Nat} (hi:i<v.length) (hs:i<s.length) (he:v[i]=s[i]):Zb0 m s (i:Int) fuel v 0=some (v.set i (shB s[i] m.From m.To)):=by
 obtain⟨n,hn⟩:∃ n,fuel=n + 6:=⟨fuel - 6,by unfold fuel; omega⟩
 rw [hn]
 have nx:∀(k:Nat) (q:Nat) (x:Bx),k<5→Zb0 m s (i:Int) (q + 1) (v.set i x) (k:Int)=Zb0 m s (i:Int) q (v.set i (x.set (k:Int) (shr ((s[i]).get (k:Int)) (m.From.get (k:Int)) (m.To.get (k:Int))))) ((k + 1:Nat):Int):=by
  intro k q x hk
  have hl:i<(v.set i x).length:=by rw [List.length_set]; exact hi
  rw [Zb0,if_pos (by simp; omega),if_pos ⟨by omega,by omega⟩,if_pos ⟨by omega,by omega⟩,Zbh hs]
  simp only [Option.bind_some,Int.toNat_natCast]
  rw [if_pos ⟨by omega,by omega⟩,Zbh hl,List.getElem_set_self]
  simp only [Option.bind_some]
  rw [if_pos ⟨by omega,by omega⟩,if_pos ⟨by omega,by omega⟩,if_pos ⟨by omega,by omega⟩]
  rw [List.set_set,Zbh (by rw [List.length_set]; exact hi),List.getElem_set_self]
  simp only [Option.bind_some]
  rw [if_pos ⟨by omega,by omega⟩,List.set_set,wsucc (by omega)]
  congr 2
  have hg:∀(x:Bx) (r:Zb),(x.set (k:Int) r).get (k:Int)=r:=fun x r=>by rcases fiveN hk with rfl | rfl | rfl | rfl | rfl <;> rfl
  rw [hg,set_set]
  unfold shr
  rw [Int.add_comm (m.To.get (k:Int)).Lo,Int.add_comm (m.To.get (k:Int)).Lo]
 have first:v=v.set i s[i]:=by rw [← he]; exact(List.set_getElem_self hi).symm
 conv=>lhs; rw [first]
 rw [show (0:Int)=((0:Nat):Int) from rfl]
 rw [nx 0 _ _ (by omega),nx 1 _ _ (by omega),nx 2 _ _ (by omega),nx 3 _ _ (by omega),nx 4 _ _ (by omega),Zb0,if_neg (by decide)]
 rfl
theorem Zot {m:Zk} {s:List Bx} (h:s.length≤300000):Zem m s=some (shM m s):=by
 unfold Zem
 rw [if_pos (by unfold lim; omega)]
 have:=Zfj (L:=Zc4 m s) s (stepN (fun b=>shB b m.From m.To)) id (fun i v=>v.length=s.length∧v.drop i=s.drop i) (by omega) (fun n v i hi hs=>by
  have hv:i<v.length:=by omega
  have he:v[i]=s[i]:=by
   have h2:(v.drop i)[0]? = (s.drop i)[0]?:=by rw [hs.2]
   rw [List.getElem?_drop,List.getElem?_drop,Nat.add_zero,List.getElem?_eq_getElem hv,List.getElem?_eq_getElem hi] at h2
   exact Option.some.inj h2
  rw [Zc4]
  simp only [show ((i:Int)<(s.length:Int)) from by omega,decide_true,if_true,wsucc (by omega:i<1000000000001)]
  rw [Zua hv hi he]
  simp only [Option.bind_some]
  have h3:stepN (fun b=>shB b m.From m.To) v i s[i]=v.set i (shB s[i] m.From m.To):=by unfold stepN; rw [List.getElem?_eq_getElem hv,he]
  rw [h3]
  exact⟨rfl,by rw [List.length_set]; exact hs.1,by rw [List.drop_set_of_lt (by omega),← List.drop_drop,← List.drop_drop,hs.2]⟩) (fun n v hs=>by rw [Zc4]; simp) s ⟨rfl,rfl⟩
 have h2:=Zl6 (fun b=>shB b m.From m.To) s []
 rw [List.nil_append,List.nil_append,List.length_nil] at h2
 rw [this.1,h2]
 rfl
abbrev ISt:=Bool × List Bx
noncomputable def istep (s:ISt) (m:Zk) (p:List Bx):ISt:=if vM m=true then ((uU s.1 s.2 (shM m p)).2,(uU s.1 s.2 (shM m p)).1) else s
noncomputable def imgR:ISt→List Zk→List (List Bx)→ISt
 | s,m :: l,p :: ps=>imgR (istep s m p) l ps
 | s,_,_=>s
theorem Zr2 (f:ISt→Zk→List Bx→ISt):∀(l:List Zk) (ps:List (List Bx)) (s:ISt) (i:Nat),l.length=ps.length→(∀ s l ps,imgR s l ps=imgR s l ps)→foldI (fun s _ (x:Zk × List Bx)=>istep s x.1 x.2) s i (l.zip ps)=imgR s l ps
 | [],[],_,_,_,_=>rfl
 | m :: l,p :: ps,s,i,h,hh=>by
  simp only [List.zip_cons_cons,foldI,imgR]
  exact Zr2 f l ps _ _ (by simpa using h) hh
 | [],_ :: _,_,_,h,_=>by simp at h
 | _ :: _,[],_,_,h,_=>by simp at h
def resA (s:ISt):List Bx × Int:=if s.1=true then ([],3) else (s.2,0)
theorem Zwg {e:Bool} {s:List Bx} (h:s.length≤300000):Zdo (le e) s=some (resA (e,s)):=by
 unfold Zdo resA le
 cases e with
 | true=>rfl
 | false=>
  simp only [Bool.false_eq_true,if_false,bne_self_eq_false]
  rw [if_pos (by unfold lim; omega)]
structure ISok (s:ISt):Prop where
 vs:VS s.2
 e:s.1=true→s.2=[]
theorem Ztn {s:ISt} (h:ISok s) (m:Zk) (p:List Bx):ISok (istep s m p):=by
 unfold istep
 split
 ·exact⟨(uU_vs _ _ _).1,(uU_vs _ _ _).2⟩
 ·exact h
noncomputable def imageA (l:List Zk) (s:List Bx):List Bx × Int:=
 let r:=partsR (kp false (st s)).2 (kp false (st s)).1 (l.map frm)
 let o:=imgR (r.2.2,[]) l r.1
 resA ((uU o.1 o.2 r.2.1).2,(uU o.1 o.2 r.2.1).1)
theorem Zrc:∀(l:List Zk) (ps:List (List Bx)) (s:ISt),ISok s→ISok (imgR s l ps)
 | [],_,_,h=>by unfold imgR; exact h
 | _ :: _,[],_,h=>by unfold imgR; exact h
 | m :: l,p :: ps,s,h=>by unfold imgR; exact Zrc l ps _ (Ztn h m p)
theorem Zxg {l:List Zk} (hl:l.length≤100000) (hin:∀ m∈l,MIn m) {s:List Bx} (hs:InL s):Zf3 l s=some (imageA l s):=by
 unfold Zf3 imageA
 rw [Zu0 hl,Zuz hs]
 simp only [Option.bind_some]
 have hv:VS (kp false (st s)).1:=(kp_vs (st_ok s).1).1
 have hms:∀ x∈l.map frm,BIn x:=fun x hx=>by
  obtain⟨m,hm,rfl⟩:=List.mem_map.1 hx
  unfold frm
  split
  ·exact(hin m hm).f
  ·exact⟨⟨by decide,by decide,by decide,by decide⟩,⟨by decide,by decide,by decide,by decide⟩,⟨by decide,by decide,by decide,by decide⟩,⟨by decide,by decide,by decide,by decide⟩,⟨by decide,by decide,by decide,by decide⟩⟩
 rw [Ztm (by rw [List.length_map]; exact hl) hms hv]
 simp only [Option.bind_some]
 have hpv:=Zkk (l.map frm) (kp false (st s)).2 (kp false (st s)).1 hv
 have hpl:(partsR (kp false (st s)).2 (kp false (st s)).1 (l.map frm)).1.length=l.length:=by rw [Zk0,List.length_map]
 generalize hr:partsR (kp false (st s)).2 (kp false (st s)).1 (l.map frm)=r at hpv hpl
 have hzl:(l.zip r.1).length=l.length:=by rw [List.length_zip,hpl,Nat.min_self]
 have:=Zfj (L:=fun n (s:ISt) i=>Zcn l (r.1,r.2.1,le r.2.2) n (le s.1) s.2 i) (l.zip r.1) (fun s _ x=>istep s x.1 x.2) (fun s=>(le s.1,s.2)) (fun _ s=>ISok s) (by omega) (fun n s i hi hs=>by
  show Zcn l (r.1,r.2.1,le r.2.2) (n + 1) (le s.1) s.2 (i:Int)=_∧_
  have hil:i<l.length:=by omega
  have hir:i<r.1.length:=by omega
  have hz:(l.zip r.1)[i]=(l[i],r.1[i]):=List.getElem_zip
  rw [hz]
  refine⟨?_,Ztn hs _ _⟩
  have hpx:=hpv.1 _ (List.getElem_mem hir)
  rw [Zcn]
  simp only [show ((i:Int)<(r.1.length:Int)) from by omega,decide_true,if_true,Zbh hil,Zbh hir,Option.bind_some,Zis,wsucc (by omega:i<1000000000001)]
  unfold istep
  by_cases h:vM l[i]=true
  ·rw [if_pos h,if_pos h,Zot hpx.inL.len]
   simp only [Option.bind_some]
   rw [lU_eq hs.vs.inL (shM_in hpx.inL.len)]
   rfl
  ·rw [if_neg h,if_neg h]
   rfl) (fun n s hs=>by
  show Zcn l (r.1,r.2.1,le r.2.2) (n + 1) (le s.1) s.2 ((l.zip r.1).length:Int)=_
  rw [Zcn,if_neg (by rw [hzl]; simp; omega)]) (r.2.2,[]) ⟨VS.nil,fun _=>rfl⟩
 have h1:=this.1
 simp only at h1
 rw [h1,Zr2 istep l r.1 _ _ hpl.symm (fun _ _ _=>rfl)]
 have hok:=Zrc l r.1 (r.2.2,[]) ⟨VS.nil,fun _=>rfl⟩
 simp only [Option.bind_some]
 rw [lU_eq hok.vs.inL hpv.2.inL]
 simp only [Option.bind_some]
 rw [Zwg (uU_vs _ _ _).1.inL.len]
 rfl
end Go.AM
set_option maxRecDepth 100000
namespace Go.AM
open Go
def sh1 (d:Int) (r:Zb):Zb:=⟨r.Lo + d,r.Hi + d⟩
def shL:List Int→RL→RL
 | d :: ds,r :: b=>sh1 d r :: shL ds b
 | _,_=>[]
def psub:List Int→List Int→List Int
 | v :: p,d :: ds=>(v - d) :: psub p ds
 | _,_=>[]
def padd:List Int→List Int→List Int
 | v :: p,d :: ds=>(v + d) :: padd p ds
 | _,_=>[]
def subB:RL→RL→Prop
 | [],[]=>True
 | r :: b,f :: g=>f.Lo≤r.Lo∧r.Hi≤f.Hi∧subB b g
 | _,_=>False
def mvOK:List Int→RL→List Int→Prop
 | [],[],[]=>True
 | t :: ts,f :: g,d :: ds=>0≤f.Lo + d∧f.Hi + d≤t∧mvOK ts g ds
 | _,_,_=>False
theorem Zu1:∀(ds:List Int) {b b':RL},b.length=ds.length→b'.length=ds.length→shL ds b=shL ds b'→b=b'
 | [],[],[],_,_,_=>rfl
 | d :: ds,r :: b,r' :: b',h,h',e=>by
  simp only [shL,List.cons.injEq,sh1,Zb.mk.injEq] at e
  simp only [List.length_cons] at h h'
  rw [Zu1 ds (by omega) (by omega) e.2]
  congr 1
  obtain⟨a1,a2⟩:=r
  obtain⟨c1,c2⟩:=r'
  simp only at e
  rw [Zb.mk.injEq]
  omega
 | [],_ :: _,_,h,_,_=>by simp at h
 | [],[],_ :: _,_,h,_=>by simp at h
 | _ :: _,[],_,h,_,_=>by simp at h
 | _ :: _,_ :: _,[],_,h,_=>by simp at h
theorem Zub {ds:List Int} {l l':List RL} (h:∀ b∈l,b.length=ds.length) (h':∀ b∈l',b.length=ds.length) (e:l.map (shL ds)=l'.map (shL ds)):l=l':=by
 induction l generalizing l' with
 | nil=>cases l' with
  | nil=>rfl
  | cons _ _=>simp at e
 | cons b l ih=>cases l' with
  | nil=>simp at e
  | cons b' l'=>
   simp only [List.map_cons,List.cons.injEq] at e
   rw [Zu1 ds (h b (List.mem_cons_self ..)) (h' b' (List.mem_cons_self ..)) e.1,ih (fun x hx=>h x (List.mem_cons_of_mem _ hx)) (fun x hx=>h' x (List.mem_cons_of_mem _ hx)) e.2]
theorem Zto:∀ {ts:List Int} {f:RL} {ds:List Int},mvOK ts f ds→f.length=ts.length∧ds.length=ts.length
 | [],[],[],_=>⟨rfl,rfl⟩
 | t :: ts,f :: g,d :: ds,h=>by have:=Zto h.2.2; simp only [List.length_cons]; omega
 | [],_ :: _,_,h=>by cases h
 | [],[],_ :: _,h=>by cases h
 | _ :: _,[],_,h=>by cases h
 | _ :: _,_ :: _,[],h=>by cases h
theorem Ztp:∀(ts:List Int) {f:RL} {ds:List Int} {l:List RL},mvOK ts f ds→CF ts l→(∀ b∈l,subB b f)→CF ts (l.map (shL ds))
 | [],f,ds,l,hm,hl,_=>by
  rcases hl with rfl | rfl
  ·exact .inl rfl
  ·cases ds with
   | nil=>exact .inr rfl
   | cons _ _=>cases f <;> cases hm
 | t :: ts,f,ds,l,hm,hl,hs=>by
  obtain⟨c,rfl,ho,hc⟩:=hl
  cases f with
  | nil=>cases hm
  | cons f g=>cases ds with
   | nil=>cases hm
   | cons d ds=>
    obtain⟨m1,m2,m3⟩:=hm
    have hlen:=Zto m3
    have hx:∀ x∈c,f.Lo≤x.1.Lo∧x.1.Hi≤f.Hi∧∀ b∈x.2,subB b g:=by
     intro x hx
     have hxo:=ho.ok x hx
     have hin:∀ b∈x.2,subB (x.1 :: b) (f :: g):=fun b hb=>hs _ (List.mem_flatMap.2 ⟨x,hx,List.mem_map.2 ⟨b,hb,rfl⟩⟩)
     obtain⟨b0,hb0⟩:=List.exists_mem_of_ne_nil _ hxo.2.2.2
     exact⟨(hin b0 hb0).1,(hin b0 hb0).2.1,fun b hb=>(hin b hb).2.2⟩
    refine⟨c.map fun x=>(sh1 d x.1,x.2.map (shL ds)),?_,⟨?_,fun y hy=>?_⟩,fun y hy=>?_⟩
    ·unfold flt
     rw [List.map_flatMap,List.flatMap_map]
     congr 1
     funext x
     rw [List.map_map,List.map_map]
     rfl
    ·rw [List.pairwise_map]
     refine List.Pairwise.imp_of_mem ?_ ho.pw
     intro x y hxc hyc hg
     refine⟨by have:=hg.1; show x.1.Hi + d<y.1.Lo + d; omega,fun e he=>?_⟩
     have hl1:∀ {z:Cell},z∈c→∀ b∈z.2,b.length=ds.length:=fun hz b hb=>by rw [CF_len ts (hc _ hz) b hb]; omega
     refine hg.2 (by have e:x.1.Hi + d + 1=y.1.Lo + d:=e; omega) (Zub (hl1 hxc) (hl1 hyc) he)
    ·obtain⟨x,hxc,rfl⟩:=List.mem_map.1 hy
     have:=ho.ok x hxc
     have:=hx x hxc
     refine⟨by show 0≤x.1.Lo + d; omega,by show x.1.Lo + d≤x.1.Hi + d; omega,by show x.1.Hi + d≤t; omega,?_⟩
     simp; exact(ho.ok x hxc).2.2.2
    ·obtain⟨x,hxc,rfl⟩:=List.mem_map.1 hy
     exact Ztp ts m3 (hc x hxc) (hx x hxc).2.2
theorem Ztq:∀(ds:List Int) (b:RL) (p:List Int),b.length=ds.length→p.length=ds.length→mB (shL ds b) p=mB b (psub p ds)
 | [],[],[],_,_=>rfl
 | d :: ds,r :: b,v :: p,h,h'=>by
  simp only [shL,mB,psub]
  rw [Ztq ds b p (by simpa using h) (by simpa using h')]
  congr 1
  rw [Bool.eq_iff_iff,Zc1,Zc1]
  show r.Lo + d≤v∧v≤r.Hi + d ↔ _
  omega
 | [],_ :: _,_,h,_=>by simp at h
 | [],[],_ :: _,_,h=>by simp at h
 | _ :: _,[],_,h,_=>by simp at h
 | _ :: _,_ :: _,[],_,h=>by simp at h
theorem vP_len:∀ {ts p:List Int},vP ts p→p.length=ts.length
 | [],[],_=>rfl
 | t :: ts,v :: p,h=>by simp only [List.length_cons]; rw [vP_len h.2.2]
 | [],_ :: _,h=>h.elim
 | _ :: _,[],h=>h.elim
theorem corner:∀ {ts:List Int} {b:RL},vR ts b→(vP ts (b.map (·.Lo))∧mB b (b.map (·.Lo))=true)∧(vP ts (b.map (·.Hi))∧mB b (b.map (·.Hi))=true)
 | [],[],_=>⟨⟨trivial,rfl⟩,⟨trivial,rfl⟩⟩
 | t :: ts,r :: b,h=>by
  obtain⟨h0,h1,h2,h3⟩:=h
  obtain⟨⟨a1,a2⟩,⟨a3,a4⟩⟩:=corner h3
  refine⟨⟨⟨h0,by show r.Lo≤t; omega,a1⟩,?_⟩,⟨⟨by show 0≤r.Hi; omega,h2,a3⟩,?_⟩⟩
  ·simp only [List.map_cons,mB,a2,Bool.and_true]; exact Zc1.2 ⟨Int.le_refl _,h1⟩
  ·simp only [List.map_cons,mB,a4,Bool.and_true]; exact Zc1.2 ⟨h1,Int.le_refl _⟩
 | [],_ :: _,h=>h.elim
 | _ :: _,[],h=>h.elim
theorem Zu2:∀ {b f:RL},mB f (b.map (·.Lo))=true→mB f (b.map (·.Hi))=true→subB b f
 | [],[],_,_=>trivial
 | r :: b,g :: f,h,h'=>by
  simp only [List.map_cons,mB,Bool.and_eq_true,Zc1] at h h'
  exact⟨h.1.1,h'.1.2,Zu2 h.2 h'.2⟩
 | [],_ :: _,h,_=>by simp [mB] at h
 | _ :: _,[],h,_=>by simp [mB] at h
def dM (m:Zk):List Int:=[m.To.x0.Lo - m.From.x0.Lo,m.To.x1.Lo - m.From.x1.Lo,m.To.x2.Lo - m.From.x2.Lo,m.To.x3.Lo - m.From.x3.Lo,m.To.x4.Lo - m.From.x4.Lo]
theorem dlen (m:Zk) {p:List Int} (h:vP tops5 p):p.length=(dM m).length:=by rw [vP_len h]; rfl
theorem Zlt {m:Zk} (hm:MIn m) (h:vM m=true) {f:Nat} (hf:f<5):0≤(m.From.get (f:Int)).Lo∧(m.From.get (f:Int)).Lo≤(m.From.get (f:Int)).Hi∧(m.From.get (f:Int)).Hi≤topOf (f:Int)∧0≤(m.To.get (f:Int)).Lo∧(m.To.get (f:Int)).Hi≤topOf (f:Int)∧(m.From.get (f:Int)).Hi - (m.From.get (f:Int)).Lo=(m.To.get (f:Int)).Hi - (m.To.get (f:Int)).Lo:=by
 unfold vM at h
 simp only [Bool.and_eq_true] at h
 obtain⟨⟨v1,v2⟩,v3⟩:=h
 have h0:(0:Int)≤(f:Int):=by omega
 have h1:(f:Int)<5:=by omega
 obtain⟨a1,a2,a3⟩:=vB_get hm.f v1 h0 h1
 obtain⟨b1,b2,b3⟩:=vB_get hm.t v2 h0 h1
 obtain⟨t1,t2⟩:=Zl5 h0 h1
 have hd:=Zpf v3 h0 h1
 unfold difM at hd
 rw [wu32 (x:=(m.From.get (f:Int)).Hi - (m.From.get (f:Int)).Lo) (by omega) (by omega),wu32 (x:=(m.To.get (f:Int)).Hi - (m.To.get (f:Int)).Lo) (by omega) (by omega)] at hd
 simp only [bne_eq_false_iff_eq] at hd
 exact⟨a1,a2,a3,b1,b3,hd⟩
structure MN (m:Zk):Prop where
 n0:0≤m.From.x0.Lo∧m.From.x0.Lo≤m.From.x0.Hi∧m.From.x0.Hi≤4294967295∧0≤m.To.x0.Lo∧m.To.x0.Hi≤4294967295∧m.From.x0.Hi - m.From.x0.Lo=m.To.x0.Hi - m.To.x0.Lo
 n1:0≤m.From.x1.Lo∧m.From.x1.Lo≤m.From.x1.Hi∧m.From.x1.Hi≤4294967295∧0≤m.To.x1.Lo∧m.To.x1.Hi≤4294967295∧m.From.x1.Hi - m.From.x1.Lo=m.To.x1.Hi - m.To.x1.Lo
 n2:0≤m.From.x2.Lo∧m.From.x2.Lo≤m.From.x2.Hi∧m.From.x2.Hi≤255∧0≤m.To.x2.Lo∧m.To.x2.Hi≤255∧m.From.x2.Hi - m.From.x2.Lo=m.To.x2.Hi - m.To.x2.Lo
 n3:0≤m.From.x3.Lo∧m.From.x3.Lo≤m.From.x3.Hi∧m.From.x3.Hi≤65535∧0≤m.To.x3.Lo∧m.To.x3.Hi≤65535∧m.From.x3.Hi - m.From.x3.Lo=m.To.x3.Hi - m.To.x3.Lo
 n4:0≤m.From.x4.Lo∧m.From.x4.Lo≤m.From.x4.Hi∧m.From.x4.Hi≤65535∧0≤m.To.x4.Lo∧m.To.x4.Hi≤65535∧m.From.x4.Hi - m.From.x4.Lo=m.To.x4.Hi - m.To.x4.Lo
theorem vM_MN {m:Zk} (hm:MIn m) (h:vM m=true):MN m:=
 ⟨Zlt hm h (f:=0) (by omega),Zlt hm h (f:=1) (by omega),Zlt hm h (f:=2) (by omega),Zlt hm h (f:=3) (by omega),Zlt hm h (f:=4) (by omega)⟩
theorem MN.mv {m:Zk} (h:MN m):mvOK tops5 (toL m.From) (dM m):=by
 obtain⟨h0,h1,h2,h3,h4⟩:=h
 exact⟨by omega,by omega,by omega,by omega,by omega,by omega,by omega,by omega,by omega,by omega,trivial⟩
theorem Zkl {a f t:Zb} {top:Int} (h:0≤f.Lo∧f.Lo≤f.Hi∧f.Hi≤top∧0≤t.Lo∧t.Hi≤top∧f.Hi - f.Lo=t.Hi - t.Lo) (ht:top<4294967296) (hs:f.Lo≤a.Lo∧a.Hi≤f.Hi) (ha:a.Lo≤a.Hi):shr a f t=sh1 (t.Lo - f.Lo) a:=by
 unfold shr sh1
 rw [wu32 (x:=a.Lo - f.Lo) (by omega) (by omega),wu32 (x:=a.Hi - f.Lo) (by omega) (by omega),wu32 (by omega) (by omega),wu32 (by omega) (by omega)]
 congr 1 <;> omega
theorem Zxh {m:Zk} (h:MN m) {b:Bx} (hb:BOk b) (hs:subB (toL b) (toL m.From)):toL (shB b m.From m.To)=shL (dM m) (toL b):=by
 obtain⟨h0,h1,h2,h3,h4⟩:=h
 obtain⟨s0,s0',s1,s1',s2,s2',s3,s3',s4,s4',_⟩:=hs
 simp only [shB,toL,dM,shL]
 rw [Zkl h0 (by omega) ⟨s0,s0'⟩ hb.h0.h1,Zkl h1 (by omega) ⟨s1,s1'⟩ hb.h1.h1,Zkl h2 (by omega) ⟨s2,s2'⟩ hb.h2.h1,Zkl h3 (by omega) ⟨s3,s3'⟩ hb.h3.h1,Zkl h4 (by omega) ⟨s4,s4'⟩ hb.h4.h1]
theorem Zwh {α:Type} {f g:α→Bool} {l:List α} (h:∀ x∈l,f x=g x):l.any f=l.any g:=by
 induction l with
 | nil=>rfl
 | cons x l ih=>rw [List.any_cons,List.any_cons,h x (List.mem_cons_self ..),ih fun y hy=>h y (List.mem_cons_of_mem _ hy)]
theorem shM_ok {m:Zk} (h:MN m) {s:List Bx} (hs:VS s) (hin:∀ p,vP tops5 p→mem s p=true→mB (toL m.From) p=true) :
  VS (shM m s)∧∀ p,vP tops5 p→mem (shM m s) p=mem s (psub p (dM m)):=by
 have hsub:∀ b∈s,subB (toL b) (toL m.From):=fun b hb=>by
  have hv:=ok_vR (hs.ok b hb)
  obtain⟨⟨a1,a2⟩,⟨a3,a4⟩⟩:=corner hv
  have hm1:∀ p,mB (toL b) p=true→mem s p=true:=fun p hp=>mS_iff.2 ⟨toL b,List.mem_map_of_mem hb,hp⟩
  exact Zu2 (hin _ a1 (hm1 _ a2)) (hin _ a3 (hm1 _ a4))
 have hmap:(shM m s).map toL=(s.map toL).map (shL (dM m)):=by
  unfold shM
  rw [List.map_map,List.map_map]
  exact List.map_congr_left fun b hb=>Zxh h (hs.ok b hb) (hsub b hb)
 refine⟨VS.of ?_ (by unfold shM; rw [List.length_map]; exact hs.len),fun p hp=>?_⟩
 ·unfold CFb
  rw [hmap]
  refine Ztp tops5 h.mv hs.cf fun b hb=>?_
  obtain⟨x,hx,rfl⟩:=List.mem_map.1 hb
  exact hsub x hx
 ·unfold mem
  rw [hmap]
  unfold mS
  rw [List.any_map]
  exact Zwh fun b hb=>by
   obtain⟨x,hx,rfl⟩:=List.mem_map.1 hb
   exact Ztq (dM m) (toL x) p rfl (dlen m hp)
theorem Zgp {a:List Bx} (h:VS a) (p:List Int):mem (a.filter vB) p=mem a p:=by rw [List.filter_eq_self.2 fun x hx=>ok_vB (h.ok x hx)]
theorem Zny (b:Bx) (p:List Int):mem [b] p=mB (toL b) p:=by unfold mem mS; simp
theorem Zg8 {b:Bx} (h:vB b=true) (p:List Int):mem ([b].filter vB) p=mB (toL b) p:=by rw [List.filter_cons,if_pos h]; exact Zny b p
theorem Ztr {e:Bool} {r:List Bx × Int} (h:(kp e r).2=false):e=false∧r.2=0∧(kp e r).1=r.1:=by
 unfold kp at h ⊢
 split at h
 ·cases h
 ·rename_i hn
  rw [if_neg hn]
  refine⟨?_,?_,rfl⟩
  ·cases e with
   | true=>exact absurd (Or.inl rfl) hn
   | false=>rfl
  ·exact Classical.byContradiction fun h0=>hn (Or.inr h0)
theorem kp_sem {e:Bool} {op:Bool→Bool→Bool} {a b:List Bx} (h:(kp e (cmb op a b)).2=false):e=false∧∀ p,vP tops5 p→mem (kp e (cmb op a b)).1 p=op (mem (a.filter vB) p) (mem (b.filter vB) p):=by
 obtain⟨h1,h2,h3⟩:=Ztr h
 exact⟨h1,fun p hp=>by rw [h3,(cmb_ok op a b).2 h2 p hp]⟩
def mtc:List Zk→List Int→Option Zk
 | [],_=>none
 | m :: l,p=>if (vM m && mB (toL m.From) p)=true then some m else mtc l p
def apP (l:List Zk) (p:List Int):List Int:=match mtc l p with
 | some m=>padd p (dM m)
 | none=>p
theorem Zhg:∀(l:List Bx) (e:Bool) (s:List Bx),(partsR e s l).2.2=false→e=false
 | [],_,_,h=>h
 | b :: l,e,s,h=>by
  simp only [partsR] at h
  split at h
  ·have h1:=Zhg l _ _ h
   exact(kp_sem (kp_sem h1).1).1
  ·exact Zhg l _ _ h
theorem Zr3:∀(l:List Zk) (ps:List (List Bx)) (s:ISt),(imgR s l ps).1=false→s.1=false
 | [],_,_,h=>by unfold imgR at h; exact h
 | _ :: _,[],_,h=>by unfold imgR at h; exact h
 | m :: l,p :: ps,s,h=>by
  unfold imgR at h
  have h1:=Zr3 l ps _ h
  unfold istep at h1
  split at h1
  ·exact(kp_sem h1).1
  ·exact h1
theorem Znl:∀ {p ds:List Int},p.length=ds.length→padd (psub p ds) ds=p
 | [],[],_=>rfl
 | v :: p,d :: ds,h=>by simp only [psub,padd]; rw [Znl (by simpa using h),Int.sub_add_cancel]
 | [],_ :: _,h=>by simp at h
 | _ :: _,[],h=>by simp at h
theorem Zjn:∀ {p ds:List Int},p.length=ds.length→psub (padd p ds) ds=p
 | [],[],_=>rfl
 | v :: p,d :: ds,h=>by simp only [psub,padd]; rw [Zjn (by simpa using h),Int.add_sub_cancel]
 | [],_ :: _,h=>by simp at h
 | _ :: _,[],h=>by simp at h
theorem vP_of:∀ {ts:List Int} {b:RL} {p:List Int},vR ts b→mB b p=true→vP ts p
 | [],[],[],_,_=>trivial
 | t :: ts,r :: b,v :: p,h,hb=>by
  simp only [mB,Bool.and_eq_true,Zc1] at hb
  obtain⟨h0,h1,h2,h3⟩:=h
  exact⟨by omega,by omega,vP_of h3 hb.2⟩
 | [],[],_ :: _,_,h=>by simp [mB] at h
 | _ :: _,_ :: _,[],_,h=>by simp [mB] at h
 | [],_ :: _,_,h,_=>h.elim
 | _ :: _,[],_,h,_=>h.elim
theorem st_kp {s:List Bx} (h:(kp false (st s)).2=false):(∀ p,vP tops5 p→mem (kp false (st s)).1 p=mem (s.filter vB) p):=by
 obtain⟨_,h2,h3⟩:=Ztr h
 exact fun p hp=>by rw [h3,(st_ok s).2 h2 p hp]
end Go.AM
set_option maxRecDepth 100000
namespace Go.AM
open Go
abbrev QSt:=Bool × List Bx × List Bx
structure QOk (s:QSt):Prop where
 o:VS s.2.1
 r:VS s.2.2
theorem Zrd {q:List Int} (hv:vP tops5 q):∃ a b c d e,q=[a,b,c,d,e]:=by
 have:=vP_len hv
 rcases q with _ | ⟨a,_ | ⟨b,_ | ⟨c,_ | ⟨d,_ | ⟨e,_ | ⟨g,l⟩⟩⟩⟩⟩⟩ <;> simp [tops5] at this
 exact⟨a,b,c,d,e,rfl⟩
theorem Zts {m:Zk} (h:MN m) {q:List Int} (hq:mB (toL m.From) q=true) (hv:vP tops5 q):mB (toL m.To) (padd q (dM m))=true∧vP tops5 (padd q (dM m)):=by
 obtain⟨a,b,c,d,e,rfl⟩:=Zrd hv
 obtain⟨h0,h1,h2,h3,h4⟩:=h
 simp only [toL,mB,Bool.and_eq_true,Zc1,Bool.and_true] at hq
 obtain⟨q0,q1,q2,q3,q4⟩:=hq
 constructor
 ·simp only [toL,dM,padd,mB,Bool.and_eq_true,Zc1,Bool.and_true]
  omega
 ·simp only [dM,padd,tops5,vP,and_true]
  omega
end Go.AM
set_option maxRecDepth 100000
namespace Go.AM
open Go
theorem MIn.mk' {m:Zk} (h:MIn m) {b:Arr5 Zb} (hb:BIn b):MIn { m with To:=b }:=⟨h.f,hb⟩
theorem u32sub {a:Int} (h0:0≤a) (h1:a≤65535):IntKind.wrap .u32 (65535 - a)=65535 - a:=wu32 (by omega) (by omega)
theorem RIn.mk' {a b:Int} (h0:0≤a) (h1:a<4294967296):RIn ⟨a,IntKind.wrap .u32 b⟩:=⟨h0,h1,(Zdz b).1,(Zdz b).2⟩
theorem Zyi {t:Ze} (ht:TOk t):Ok (Zey t) fun r=>MIn r.1∧TOk r.2:=by
 unfold Zey
 rw [Zup]
 refine Ok.lift ?_
 refine Ok.bind (Zb7 ht 2 (by omega) (by omega)) fun r3 ⟨⟨a0,a1⟩,h3⟩=>?_
 refine Ok.bind (Ok.idx (p:=fun x=>0≤x∧x<4294967296) a0 (by simpa using a1) fun x hx=>?_) fun x5 hx5=>?_
 ·simp only [List.mem_cons,List.not_mem_nil,or_false] at hx
  omega
 refine Ok.bind (Zb7 h3 2 (by omega) (by omega)) fun r7 ⟨⟨a0,a1⟩,h7⟩=>?_
 refine Ok.bind (Ok.idx (p:=fun x=>0≤x∧x<4294967296) a0 (by simpa using a1) fun x hx=>?_) fun x9 hx9=>?_
 ·simp only [List.mem_cons,List.not_mem_nil,or_false] at hx
  omega
 refine Ok.bind (Zh4 h7 (by omega) (by omega)) fun r11 ⟨⟨b0,b1⟩,h11⟩=>?_
 refine Ok.bind (Zb7 h11 3 (by omega) (by omega)) fun r13 ⟨_,h13⟩=>?_
 refine Ok.bind (Zb7 h13 4 (by omega) (by omega)) fun r15 ⟨⟨c0,c1⟩,h15⟩=>?_
 refine Ok.bind (Zb7 h15 5 (by omega) (by omega)) fun r17 ⟨_,h17⟩=>?_
 refine Ok.bind Zm7 fun p hp=>Ok.bind (Of_ok hp) fun q hq=>?_
 refine Ok.bind (Zh4 h17 (by omega) (by omega)) fun r23 ⟨⟨d0,d1⟩,h23⟩=>Ok.ret ⟨?_,h23⟩
 have hl:=hq.rin (by omega)
 rw [u32sub b0 (by omega),wu32 c0 (by omega)]
 have hm:0≤iMin r15.1 (65535 - r11.1)∧iMin r15.1 (65535 - r11.1)≤3:=by unfold iMin; split <;> omega
 rw [u32sub hm.1 (by omega)]
 have hn:0≤iMin r23.1 (65535 - iMin r15.1 (65535 - r11.1))∧iMin r23.1 (65535 - iMin r15.1 (65535 - r11.1))≤65000:=by unfold iMin; split <;> omega
 exact⟨⟨Zlq.bin.h0,RIn.mk' hx9.1 hx9.2,⟨hx5.1,hx5.2,hx5.1,hx5.2⟩,Zlq.bin.h3,RIn.mk' b0 (by omega)⟩,⟨Zlq.bin.h0,RIn.mk' hl.h0 hl.h1,⟨hx5.1,hx5.2,hx5.1,hx5.2⟩,Zlq.bin.h3,RIn.mk' hn.1 (by omega)⟩⟩
theorem Zou (wild:Bool):∀(n:Nat) (t:Ze) (l:List Zk) (i:Int),TOk t→(∀ x∈l,MIn x)→i≤n→0≤i→i<100→(l.length:Int) + i<1000 →
  Ok (Zb1 wild (n + 1) t l i) fun r=>TOk r.1∧(∀ x∈r.2,MIn x)∧(r.2.length:Int)=l.length + i
 | 0,t,l,i,ht,hl,hi,h0,h9,hlen=>by
  rw [Zb1]
  exact Ok.ite (fun hc=>absurd (of_decide_eq_true hc) (by omega)) fun _=>Ok.ret ⟨ht,hl,by show (l.length:Int)=_; omega⟩
 | n + 1,t,l,i,ht,hl,hi,h0,h9,hlen=>by
  rw [Zb1]
  refine Ok.ite (fun hc=>?_) fun hc=>Ok.ret ⟨ht,hl,by simp at hc; show (l.length:Int)=_; omega⟩
  have hc:=of_decide_eq_true hc
  refine Ok.bind (p:=fun r=>TOk r.1∧(∀ x∈r.2,MIn x)∧r.2.length=l.length + 1) ?_ fun r ⟨h1,h2,h3⟩=>?_
  ·refine Ok.bind (Zyi ht) fun q ⟨g1,g2⟩=>?_
   refine Ok.bind (p:=fun o=>TOk o.1∧MIn o.2) ?_ fun o ⟨k1,k2⟩=>?_
   ·refine Ok.lift ?_
    refine Ok.bind (p:=fun v=>TOk v.2) ?_ fun v k1=>?_
    ·refine Ok.ite (fun hw=>?_) fun _=>Ok.ret g2
     exact Ok.bind (Zb7 g2 6 (by omega) (by omega)) fun r190 ⟨_,h6⟩=>Ok.ret h6
    ·refine Ok.ite (fun hv=>?_) fun _=>Ok.ret ⟨k1,g1⟩
     exact Ok.bind (Zom k1 g1.t) fun r196 ⟨m1,m2⟩=>Ok.ret ⟨m2,g1.f,m1⟩
   ·obtain⟨o1,o2⟩:=o
    refine Ok.bind (p:=fun o=>TOk o.1∧MIn o.2) ?_ fun o ⟨k1,k2⟩=>?_
    ·refine Ok.lift ?_
     refine Ok.bind (p:=fun v=>TOk v.2) ?_ fun v k3=>?_
     ·refine Ok.ite (fun hw=>?_) fun _=>Ok.ret k1
      exact Ok.bind (Zb7 k1 6 (by omega) (by omega)) fun r190 ⟨_,h6⟩=>Ok.ret h6
     ·exact Ok.ite (fun hv=>Ok.ret ⟨k3,k2.t,k2.f⟩) fun _=>Ok.ret ⟨k3,k2⟩
    ·obtain⟨o1,o2⟩:=o
     refine Ok.chk (by simp only [List.length_singleton]; unfold lim; omega) (Ok.ret ⟨k1,fun x hx=>?_,by simp⟩)
     rcases List.mem_append.1 hx with hx | hx
     ·exact hl x hx
     ·simp only [List.mem_singleton] at hx; subst hx; exact k2
  ·obtain⟨r1,r2⟩:=r
   simp only at h1 h2 h3
   show Ok (Zb1 wild (n + 1) r1 r2 (IntKind.wrap .i64 (i - 1))) _
   rw [wi64 (by omega) (by omega)]
   refine(Zou wild n r1 r2 (i - 1) h1 h2 (by omega) (by omega) (by omega) (by omega)).mono fun v ⟨e1,e2,e3⟩=>⟨e1,e2,?_⟩
   omega
theorem Zxi (wild:Bool) {t:Ze} (ht:TOk t) {n:Int} (h0:0≤n) (h1:n<90):Ok (Zer t n wild) fun r=>(∀ x∈r.1,MIn x)∧(r.1.length:Int)≤n∧TOk r.2:=by
 unfold Zer
 rw [wi64 (x:=n + 1) (by omega) (by omega)]
 refine Ok.bind (Zb7 ht (n + 1) (by omega) (by omega)) fun r ⟨⟨h2,h3⟩,h4⟩=>?_
 refine Ok.bind (Zou wild 1180591620717411303423 r.2 [] r.1 h4 (by simp) (by omega) h2 (by omega) (by simp; omega)) fun q ⟨g1,g2,g3⟩=>?_
 obtain⟨q1,q2⟩:=q
 refine Ok.ret ⟨g2,?_,g1⟩
 simp at g3
 show (q2.length:Int)≤n
 omega
theorem Zwi {t:Ze} (ht:TOk t):Ok (Zeg t) fun r=>Zaw r.1∧TOk r.2:=by
 unfold Zeg
 refine Ok.bind (Zlr ht) fun r1 ⟨a1,h1⟩=>Ok.bind (Zlr h1) fun r3 ⟨a3,h3⟩=>?_
 refine Ok.bind (Zb7 h3 6 (by omega) (by omega)) fun r5 ⟨⟨c0,c1⟩,h5⟩=>?_
 refine Ok.bind (Ok.idx (p:=fun x=>0≤x∧x<256) c0 (by simpa using c1) fun x hx=>?_) fun x7 hx7=>?_
 ·simp only [List.mem_cons,List.not_mem_nil,or_false] at hx
  omega
 refine Ok.bind (Zh4 h5 (by omega) (by omega)) fun r9 ⟨a9,h9⟩=>Ok.bind (Zh4 h9 (by omega) (by omega)) fun r11 ⟨a11,h11⟩=>Ok.ret ⟨?_,h11⟩
 have g9:=Zqe r9.1
 have g11:=Zqe r11.1
 refine⟨?_,?_,?_,?_,?_,trivial⟩ <;> simp only [Zif,Zho,ok_u8] <;> omega
theorem Zqp {l:List Zk} (hl:∀ m∈l,MIn m) (hn:l.length≤100000):Ok (Zfk l) fun r=>(∀ b∈r,BIn b)∧r.length=2 * l.length:=by
 unfold Zfk
 refine Ok.bind (p:=fun r=>(∀ b∈r,BIn b)∧r.length=2 * l.length) ?_ fun r hr=>Ok.ret hr
 refine Zxx (L:=Zdp l) l (fun i s=>(∀ b∈s,BIn b)∧s.length=2 * i) (by omega) (fun n s i hi ⟨h1,h2⟩ k=>?_) (fun n s h=>?_) [] ⟨by simp,rfl⟩
 ·rw [Zdp]
  rw [if_pos (decide_eq_true (show (i:Int)<l.length by omega))]
  simp only [Zbh hi,Option.bind_some]
  refine Ok.chk (by simp only [List.length_cons,List.length_nil]; unfold lim; omega) ?_
  rw [wsucc (by omega)]
  refine k _ ⟨fun b hb=>?_,by simp [h2]; omega⟩
  simp only [List.mem_append,List.mem_cons,List.not_mem_nil,or_false] at hb
  have hm:=hl _ (List.getElem_mem hi)
  rcases hb with hb | rfl | rfl
  ·exact h1 _ hb
  ·exact hm.f
  ·exact hm.t
 ·rw [Zdp]
  rw [if_neg (by simp)]
  exact Ok.ret h
theorem Ztt (v:Arr5 Int) (x:Int) {k:Int} (h0:0≤k) (h1:k<5):(v.set k x).get k=x:=by
 rcases five h0 h1 with rfl | rfl | rfl | rfl | rfl <;> rfl
theorem Ztu (v:Arr5 Int) (x y:Int) {k:Int} (h0:0≤k) (h1:k<5):(v.set k x).set k y=v.set k y:=by
 rcases five h0 h1 with rfl | rfl | rfl | rfl | rfl <;> rfl
theorem z_ok:VOk Zhu:=⟨by decide,by decide,by decide,by decide,by decide⟩
theorem Zu3 {t:Ze} (ht:TOk t) {l:List (Arr5 Zb)} (hl:∀ b∈l,BIn b) (hn:l.length≤1000000):Ok (Zd5 t l) fun r=>Zaw r.1∧TOk r.2:=by
 unfold Zd5
 refine Ok.lift ?_
 refine Ok.bind (p:=fun v=>TOk v.2∧(v.1=false→0<l.length)) ?_ fun v ⟨hv,hp⟩=>?_
 ·refine Ok.ite (fun _=>Ok.ret ⟨ht,fun h=>by cases h⟩) fun hc=>?_
  exact Ok.bind (Zb7 ht 4 (by omega) (by omega)) fun r ⟨_,h4⟩=>Ok.ret ⟨h4,fun _=>by
   rcases l with _ | ⟨a,l⟩
   ·exact absurd rfl hc
   ·simp⟩
 refine Ok.ite (fun _=>Ok.bind (Zwi hv) fun r h=>Ok.ret h) fun hc=>?_
 have hp:=hp (by simpa using hc)
 refine Ok.bind (Zb7 hv (l.length:Int) (by omega) (by omega)) fun r11 ⟨⟨a0,a1⟩,h11⟩=>?_
 refine Ok.bind (Ok.idx (p:=BIn) a0 a1 hl) fun b hb=>?_
 refine Ok.bind (p:=fun o=>TOk o.1∧VOk o.2) ?_ fun o ⟨g1,g2⟩=>?_
 ·refine Ok.mono (p:=fun(o:Ze × Arr5 Int)=>TOk o.1∧VOk o.2) ?_ fun _ h=>h
  have key:∀(s:Ze × Arr5 Int),TOk s.1∧VOk s.2→Ok ((fun n (s:Ze × Arr5 Int) k=>Zbl b n s.1 s.2 k) fuel s 0) fun(o:Ze × Arr5 Int)=>TOk o.1∧VOk o.2:=fun s hs=>by
   refine Zxw (L:=fun n (s:Ze × Arr5 Int) k=>Zbl b n s.1 s.2 k) (I:=fun s=>TOk s.1∧VOk s.2) (fun n s k h0 h1 ⟨e1,e2⟩ kk=>?_) (fun n s h=>?_) s hs
   ·have hk:0≤k∧k<5:=⟨h0,h1⟩
    show Ok (Zbl b (n + 1) s.1 s.2 k) _
    rw [Zbl,if_pos (decide_eq_true h1)]
    refine Ok.chk hk (Ok.chk hk (Ok.chk hk (Ok.chk hk (Ok.chk hk (Ok.chk hk (Ok.chk hk ?_))))))
    refine Ok.bind (Zb7 e1 5 (by omega) (by omega)) fun r81 ⟨⟨d0,d1⟩,h81⟩=>?_
    have hg:=hb.get k
    have w1:=Zdz ((b.get k).Lo - 1)
    have w2:=Zdz ((b.get k).Hi + 1)
    have w3:=Zdz ((b.get k).Lo + IntKind.wrap .u32 (Int.tdiv (IntKind.wrap .u32 ((b.get k).Hi - (b.get k).Lo)) 2))
    have q0:=hg.h0
    have q1:=hg.h1
    have q2:=hg.h2
    have q3:=hg.h3
    refine Ok.bind (Ok.idx (p:=fun x=>0≤x∧x<4294967296) d0 (by simpa using d1) fun x hx=>?_) fun x hx=>?_
    ·simp only [List.mem_cons,List.not_mem_nil,or_false] at hx
     omega
    refine Ok.chk hk (Ok.chk hk ?_)
    rw [Top_eq k h0 h1]
    refine Ok.lift ?_
    refine Ok.chk hk ?_
    rw [wnext h0 (by omega),Ztt _ _ h0 h1,Ztu _ _ _ h0 h1]
    have ht:=Zl5 h0 h1
    refine kk (r81.2,s.2.set k (iMin x (topOf k))) ⟨h81,e2.set h0 h1 ?_ ?_⟩
    ·unfold iMin; split <;> omega
    ·unfold iMin; split <;> omega
   ·show Ok (Zbl b (n + 1) s.1 s.2 5) _
    rw [Zbl,if_neg (by decide)]
    exact Ok.ret h
  exact key (r11.2,Zhu) ⟨h11,z_ok⟩
 ·obtain⟨o1,o2⟩:=o
  show Ok ((Zfn o2).bind _) _
  rw [Zvi g2]
  exact Ok.lift (Ok.ret ⟨hdr_ok g2,g1⟩)
end Go.AM
set_option maxRecDepth 100000
namespace Go.AM
open Go
end Go.AM
set_option maxRecDepth 100000
namespace Go.AM
open Go
def pt (h:Zm):List Int:=[h.Src,h.Dst,h.Proto,h.SrcPort,h.DstPort]
theorem pt_ok {h:Zm} (hh:Zaw h):vP tops5 (pt h):=by
 have:=hv_ok hh
 exact⟨this.h0.1,this.h0.2,this.h1.1,this.h1.2,this.h2.1,this.h2.2,this.h3.1,this.h3.2,this.h4.1,this.h4.2,trivial⟩
theorem pt_inj {g h:Zm} (e:pt g=pt h):g=h:=by
 obtain⟨a,b,c,d,f⟩:=g
 obtain⟨a',b',c',d',f'⟩:=h
 simp only [pt,List.cons.injEq,and_true] at e
 obtain⟨rfl,rfl,rfl,rfl,rfl⟩:=e
 rfl
theorem cB_eq (b:Bx) (h:Zm):cB b h=(vB b && mB (toL b) (pt h)):=by
 unfold cB
 congr 1
 unfold allF outB
 rw [Bool.eq_iff_iff]
 simp only [toL,pt,mB,hv,Bool.not_eq_true',Bool.or_eq_false_iff,decide_eq_false_iff_not,Bool.and_eq_true,Zc1,Arr5.get]
 simp
 omega
theorem Zov {h:Zm} (hh:Zaw h) {l:List Bx} (hl:l.length≤1000000000000):Zd7 l h=some (mem (l.filter vB) (pt h)):=by
 unfold Zd7
 rw [Zjm (L:=Zcw l h) l (fun _ x=>if cB x h=true then some true else none) hl (fun n i hi=>by
  rw [Zcw]
  simp only [show ((i:Int)<(l.length:Int)) from by omega,decide_true,if_true,Zbh hi,Option.bind_some,Zs8 hh,wsucc (by omega:i<1000000000001)]
  cases cB l[i] h <;> rfl) (fun n=>by rw [Zcw]; simp)]
 have e:∀(l:List Bx) (i:Nat),findI (fun _ x=>if cB x h=true then some true else none) i l=if mem (l.filter vB) (pt h)=true then some true else none:=by
  intro l
  induction l with
  | nil=>intro i; rfl
  | cons b l ih=>
   intro i
   simp only [findI,cB_eq]
   have e2:mem ((b :: l).filter vB) (pt h)=((vB b && mB (toL b) (pt h)) || mem (l.filter vB) (pt h)):=by
    rw [List.filter_cons]
    by_cases hb:vB b=true
    ·rw [if_pos hb,hb,Bool.true_and,show b :: l.filter vB=[b]++l.filter vB from rfl,Zuy,Zny]
    ·rw [if_neg hb]
     rw [Bool.not_eq_true] at hb
     rw [hb]; rfl
   rw [e2]
   by_cases hb:(vB b && mB (toL b) (pt h))=true
   ·rw [if_pos hb,hb]; rfl
   ·rw [if_neg hb]
    rw [Bool.not_eq_true] at hb
    rw [hb,Bool.false_or]
    have:=ih (i + 1)
    simp only [cB_eq] at this
    exact this
 rw [e]
 cases mem (l.filter vB) (pt h) <;> rfl
theorem CFb.nil_iff {l:List Bx} (h:CFb l):l=[] ↔ ∀ p,vP tops5 p→mem l p=false:=
 ⟨fun e p _=>by rw [e]; rfl,fun e=>h.inj CFb.nil fun p hp=>by rw [e p hp]; rfl⟩
theorem Zyj {s:ISt} (h:ISok s):SetOr (resA s):=by
 unfold resA
 split
 ·exact⟨VS.nil,Or.inr rfl⟩
 ·exact⟨h.vs,Or.inl rfl⟩
theorem Zwj (l:List Zk) (s:List Bx):SetOr (imageA l s):=Zyj ⟨(uU_vs _ _ _).1,(uU_vs _ _ _).2⟩
theorem Ztv (h:Zm):∀(l:List Zk) (i:Nat),(findI (gM h) i l=none∧mtc l (pt h)=none)∨∃(j:Nat) (hj:j<l.length),findI (gM h) i l=some ((i + j:Nat):Int)∧mtc l (pt h)=some l[j]
 | [],i=>Or.inl ⟨rfl,rfl⟩
 | m :: l,i=>by
  have e:(vM m && cB m.From h)=(vM m && mB (toL m.From) (pt h)):=by
   rw [cB_eq]
   by_cases hv:vM m=true
   ·rw [(Zrb hv).1,Bool.true_and]
   ·rw [Bool.not_eq_true] at hv; rw [hv]; rfl
  by_cases hc:(vM m && mB (toL m.From) (pt h))=true
  ·refine Or.inr ⟨0,by simp,?_,?_⟩
   ·simp only [findI,gM,e,hc,if_true]; rfl
   ·simp only [mtc,hc,if_true]; rfl
  ·have e1:findI (gM h) i (m :: l)=findI (gM h) (i + 1) l:=by simp only [findI,gM,e,if_neg hc]
   have e2:mtc (m :: l) (pt h)=mtc l (pt h):=by simp only [mtc,if_neg hc]
   rw [e1,e2]
   rcases Ztv h l (i + 1) with h1 | ⟨j,hj,h1,h2⟩
   ·exact Or.inl h1
   ·exact Or.inr ⟨j + 1,by simp; omega,by rw [h1]; congr 2; omega,by rw [h2]; rfl⟩
theorem pt_aM (l:List Zk) (h:Zm):pt (aM l h)=apP l (pt h):=by
 unfold apP
 rcases Ztv h l 0 with ⟨h1,h2⟩ | ⟨j,hj,h1,h2⟩
 ·have e:mM l h=-1:=by unfold mM; rw [h1]; rfl
  rw [aM_neg (by rw [e]; decide),h2]
 ·have e:mM l h=(j:Int):=by unfold mM; rw [h1,Nat.zero_add]; rfl
  have e2:aM l h=hdr (toV l[j] (hv h)):=by
   unfold aM
   rw [e,Int.toNat_natCast,List.getElem?_eq_getElem hj]
   exact if_neg (by omega)
  rw [e2,h2]
  simp only [pt,hdr,toV,to1,hv,padd,dM,Arr5.get,List.cons.injEq,and_true]
  simp
  omega
end Go.AM
set_option maxRecDepth 100000
namespace Go.AM
open Go
def meets (a b:List Bx):Prop:=∃ p,vP tops5 p∧mem a p=true∧mem b p=true
theorem Zj2 {a b:List Bx} (h:meets a b):meets b a:=by obtain⟨p,h1,h2,h3⟩:=h; exact⟨p,h1,h3,h2⟩
theorem Zk1 (a:List Bx):¬ meets a []:=fun⟨_,_,_,h⟩=>by cases h
noncomputable def mt2 (a b:List Bx):Bool:=((cmb oA a b).2 != 0) || decide (((cmb oA a b).1.length:Int) > 0)
theorem Zu4 {a b:List Bx} (ha:VS a) (hb:VS b):mt2 a b=true ↔ meets a b:=by
 unfold mt2 cmb
 rw [Zh6 ha,Zh6 hb]
 simp only [ne_eq,not_true_eq_false,if_false]
 have hC:=Zf9 oA a b
 have e:can oA a b ≠ [] ↔ meets a b:=by
  constructor
  ·intro h
   apply Classical.byContradiction
   intro hn
   refine h ((hC.cf.nil_iff).2 fun p hp=>?_)
   rw [hC.mem p hp,oA]
   cases h1:mem a p with
   | false=>rfl
   | true=>cases h2:mem b p with
    | false=>rfl
    | true=>exact absurd ⟨p,hp,h1,h2⟩ hn
  ·rintro⟨p,hp,h1,h2⟩ h
   have:=(hC.cf.nil_iff).1 h p hp
   rw [hC.mem p hp,oA,h1,h2] at this
   cases this
 rw [← e]
 unfold capB
 by_cases hl:(can oA a b).length≤4096
 ·rw [if_pos hl]
  simp only [bne_self_eq_false,Bool.false_or,decide_eq_true_eq]
  rw [← List.length_pos_iff]
  omega
 ·rw [if_neg hl]
  simp only [show ((3:Int) != 0)=true by decide,Bool.true_or,true_iff]
  intro h
  rw [h] at hl
  simp at hl
def imgsP:List Zk→List (List Bx)→List (List Bx)
 | m :: l,p :: ps=>if vM m=true then shM m p :: imgsP l ps else imgsP l ps
 | _,_=>[]
def imgsR:List Zk→List (List Bx)→List (List Bx)
 | m :: l,p :: ps=>shM m p :: imgsR l ps
 | _,_=>[]
def Apart (l:List (List Bx)):Prop:=l.Pairwise fun a b=>¬ meets a b
end Go.AM
set_option maxRecDepth 100000
namespace Go.AM
open Go
theorem Zpj:∀(l:List Bx) (e:Bool) (s:List Bx),VS s→(∀ b∈l,BIn b)→(partsR e s l).2.2=false→∀ i (h:i<l.length),vB l[i]=true→∀ q,(partsR e s l).1[i]? = some q→∀ p,vP tops5 p→mem q p=true→mB (toL l[i]) p=true
 | [],_,_,_,_,_,i,h,_,_,_,_,_,_=>by simp at h
 | b :: l,e,s,hs,hb,hf,i,h,hv,q,hq,p,hp,hm=>by
  have hb':∀ b∈l,BIn b:=fun x hx=>hb x (List.mem_cons_of_mem _ hx)
  simp only [partsR] at hf hq
  by_cases hvb:vB b=true
  ·rw [if_pos hvb] at hf hq
   cases i with
   | zero=>
    simp only [List.getElem?_cons_zero,Option.some.injEq] at hq
    subst hq
    have g1:=Zhg _ _ _ hf
    obtain⟨g2,_⟩:=kp_sem g1
    obtain⟨_,gI⟩:=kp_sem g2
    have:=gI p hp
    rw [Zgp hs,Zg8 hvb] at this
    have e3:mem (uI e s [b]).1 p=(mem s p && mB (toL b) p):=this
    rw [e3,Bool.and_eq_true] at hm
    exact hm.2
   | succ i=>
    simp only [List.getElem?_cons_succ] at hq
    exact Zpj l _ _ (uS_vs _ _ _).1 hb' hf i (by simpa using h) (by simpa using hv) q hq p hp hm
  ·rw [if_neg hvb] at hf hq
   cases i with
   | zero=>exact absurd (by simpa using hv) hvb
   | succ i=>
    simp only [List.getElem?_cons_succ] at hq
    exact Zpj l _ _ hs hb' hf i (by simpa using h) (by simpa using hv) q hq p hp hm
theorem frm_in {l:List Zk} (hin:∀ m∈l,MIn m):∀ x∈l.map frm,BIn x:=fun x hx=>by
 obtain⟨m,hm,rfl⟩:=List.mem_map.1 hx
 unfold frm
 split
 ·exact(hin m hm).f
 ·exact⟨⟨by decide,by decide,by decide,by decide⟩,⟨by decide,by decide,by decide,by decide⟩,⟨by decide,by decide,by decide,by decide⟩,⟨by decide,by decide,by decide,by decide⟩,⟨by decide,by decide,by decide,by decide⟩⟩
theorem Zu5:∀(l:List Zk) (ps:List (List Bx)),(∀ m∈l,MIn m)→ps.length=l.length→(∀ q∈ps,VS q)→(∀ i (h:i<l.length),vM l[i]=true→∀ q,ps[i]? = some q→∀ p,vP tops5 p→mem q p=true→mB (toL (l[i]).From) p=true)→(∀ i (h:i<l.length),vM l[i]=false→ps[i]? = some [])→∀ x∈imgsR l ps,VS x
 | [],_,_,_,_,_,_,x,hx=>by unfold imgsR at hx; cases hx
 | _ :: _,[],_,h,_,_,_,_,_=>by simp at h
 | m :: l,q :: ps,hin,hl,hv,hb,h0,x,hx=>by
  unfold imgsR at hx
  rcases List.mem_cons.1 hx with rfl | hx
  ·by_cases hm:vM m=true
   ·exact(shM_ok (vM_MN (hin m (List.mem_cons_self ..)) hm) (hv q (List.mem_cons_self ..)) (hb 0 (by simp) hm q rfl)).1
   ·have:=h0 0 (by simp) (by simpa using hm)
    simp only [List.getElem?_cons_zero,Option.some.injEq] at this
    subst this
    exact VS.nil
  ·refine Zu5 l ps (fun z hz=>hin z (List.mem_cons_of_mem _ hz)) (by simpa using hl) (fun z hz=>hv z (List.mem_cons_of_mem _ hz)) (fun i h hv2 q2 hq2=>?_) (fun i h hv2=>?_) x hx
   ·exact hb (i + 1) (by simpa using h) hv2 q2 hq2
   ·have:=h0 (i + 1) (by simpa using h) hv2
    simpa using this
theorem Znm:∀(l:List Zk) (ps:List (List Bx)),∀ x∈imgsP l ps,x∈imgsR l ps
 | [],_,x,hx=>by unfold imgsP at hx; cases hx
 | _ :: _,[],x,hx=>by unfold imgsP at hx; cases hx
 | m :: l,q :: ps,x,hx=>by
  unfold imgsP at hx
  unfold imgsR
  split at hx
  ·rcases List.mem_cons.1 hx with rfl | hx
   ·exact List.mem_cons_self ..
   ·exact List.mem_cons_of_mem _ (Znm l ps x hx)
  ·exact List.mem_cons_of_mem _ (Znm l ps x hx)
theorem Inj_L1 {l:List Zk} {r7:List (List Bx) × List Bx × Zn} (hl:l.length≤100000) (hr:r7.1.length=l.length) (hv:∀ q∈r7.1,VS q) (acc:List (List Bx)) (ha:acc.length≤10):Zb4 l r7 fuel acc 0=some (acc++imgsP l r7.1):=by
 have hz:(l.zip r7.1).length=l.length:=by rw [List.length_zip,hr,Nat.min_self]
 have:=Zfj (L:=Zb4 l r7) (l.zip r7.1) (fun s _ x=>s++if vM x.1=true then [shM x.1 x.2] else []) id (fun i s=>s.length≤10 + i) (by omega) (fun n s i hi hs=>by
  have hil:i<l.length:=by omega
  have hir:i<r7.1.length:=by omega
  have hzi:(l.zip r7.1)[i]=(l[i],r7.1[i]):=List.getElem_zip
  rw [hzi]
  rw [Zb4]
  simp only [show ((i:Int)<(r7.1.length:Int)) from by omega,decide_true,if_true,Zbh hil,Zbh hir,Option.bind_some,Zis,wsucc (by omega:i<1000000000001),List.length_singleton]
  by_cases h:vM l[i]=true
  ·rw [if_pos h,if_pos h,Zot (hv _ (List.getElem_mem hir)).inL.len]
   simp only [Option.bind_some]
   rw [if_pos (show s.length + 1≤lim by unfold lim; omega)]
   exact⟨rfl,by simp; omega⟩
  ·rw [if_neg h,if_neg h,List.append_nil]
   exact⟨rfl,by omega⟩) (fun n s hs=>by rw [Zb4,if_neg (by rw [hz]; simp; omega)]; rfl) acc (by omega)
 rw [this.1]
 have e:∀(l:List Zk) (ps acc:List (List Bx)) (i:Nat),foldI (fun s _ (x:Zk × List Bx)=>s++if vM x.1=true then [shM x.1 x.2] else []) acc i (l.zip ps)=acc++imgsP l ps:=by
  intro l
  induction l with
  | nil=>intro ps acc i; simp [foldI,imgsP]
  | cons m l ih=>
   intro ps acc i
   cases ps with
   | nil=>simp [foldI,imgsP]
   | cons p ps=>
    simp only [List.zip_cons_cons,foldI,imgsP]
    rw [ih]
    by_cases h:vM m=true
    ·rw [if_pos h,if_pos h,List.append_assoc]; rfl
    ·rw [if_neg h,if_neg h,List.append_nil]
 rw [e]
 rfl
theorem Inj_L2 {im:List (List Bx)} (hl:im.length≤100000) (hv:∀ x∈im,VS x):∃ o,Zb6 im fuel im 0=some o∧((Apart im→o=.inl im)∧(¬ Apart im→o=.inr (false,0))):=by
 have h3:∀(i:Nat) (hi:i<im.length),Zb5 im (i:Int) fuel 0=some (if ((im.take i).any (mt2 im[i]))=true then .inr (false,0) else .inl ()):=by
  intro i hi
  have hd:List.drop (Int.toNat (0:Int)) (List.take (Int.toNat (i:Int)) im)=im.take i:=rfl
  have ht:(im.take i).length=i:=by rw [List.length_take]; omega
  rw [Zjm (L:=Zb5 im (i:Int)) (im.take i) (fun _ y=>if mt2 im[i] y=true then some (false,(0:Int)) else none) (by omega) (fun n j hj=>by
   have hy:=hv _ (List.mem_of_mem_take (List.getElem_mem hj))
   rw [Zb5]
   simp only [hd,show ((j:Int)<((im.take i).length:Int)) from by omega,decide_true,if_true,Zbh hi,Zbh hj,Option.bind_some,wsucc (by omega:j<1000000000001)]
   rw [Zmg (hv _ (List.getElem_mem hi)).inL.len hy.inL.len (hv _ (List.getElem_mem hi)).inL.bin hy.inL.bin]
   simp only [Option.bind_some]
   have e:((cmb oA im[i] (im.take i)[j]).2 != 0 || decide (((cmb oA im[i] (im.take i)[j]).1.length:Int) > 0))=mt2 im[i] (im.take i)[j]:=rfl
   rw [e]
   cases mt2 im[i] (im.take i)[j] <;> rfl) (fun n=>by rw [Zb5,hd,if_neg (by simp)])]
  have e:∀(l:List (List Bx)) (k:Nat),findI (fun _ y=>if mt2 im[i] y=true then some (false,(0:Int)) else none) k l=if l.any (mt2 im[i])=true then some (false,(0:Int)) else none:=by
   intro l
   induction l with
   | nil=>intro k; rfl
   | cons y l ih=>
    intro k
    by_cases h:mt2 im[i] y=true
    ·simp only [findI,if_pos h,List.any_cons,h,Bool.true_or,if_true]
    ·rw [Bool.not_eq_true] at h
     simp only [findI,List.any_cons,h,Bool.false_eq_true,if_false,Bool.false_or]
     exact ih (k + 1)
  rw [e]
  cases (im.take i).any (mt2 im[i]) <;> rfl
 have hL:∀(K i n:Nat),im.length - i=K→K<n→i≤im.length→∃ o,Zb6 im n im (i:Int)=some o∧(((∀ j (h:j<im.length),i≤j→((im.take j).any (mt2 im[j]))=false)→o=.inl im)∧(¬ (∀ j (h:j<im.length),i≤j→((im.take j).any (mt2 im[j]))=false)→o=.inr (false,0))):=by
  intro K
  induction K with
  | zero=>
   intro i n hK hn hi
   cases n with
   | zero=>omega
   | succ n=>
   rw [Zb6,if_neg (by simp; omega)]
   exact⟨_,rfl,fun _=>rfl,fun h=>absurd (fun j h1 h2=>by omega) h⟩
  | succ K ih=>
   intro i n hK hn hi
   cases n with
   | zero=>omega
   | succ n=>
   have hil:i<im.length:=by omega
   rw [Zb6,if_pos (by simp; omega),if_pos ⟨by omega,by omega,by omega⟩,h3 i hil]
   simp only [Option.bind_some]
   by_cases hc:((im.take i).any (mt2 im[i]))=true
   ·rw [if_pos hc]
    refine⟨_,rfl,fun h=>?_,fun _=>rfl⟩
    have:=h i hil (Nat.le_refl _)
    rw [this] at hc
    cases hc
   ·rw [if_neg hc]
    simp only
    rw [wsucc (by omega)]
    obtain⟨o,o1,o2,o3⟩:=ih (i + 1) n (by omega) (by omega) (by omega)
    refine⟨o,o1,fun h=>o2 fun j hj h1=>h j hj (by omega),fun h=>o3 fun h2=>h fun j hj h1=>?_⟩
    rcases Nat.eq_or_lt_of_le h1 with h4 | h4
    ·subst h4; simpa using hc
    ·exact h2 j hj (by omega)
 obtain⟨o,o1,o2,o3⟩:=hL im.length 0 fuel (by omega) (by unfold fuel; omega) (by omega)
 have key:(∀ j (h:j<im.length),0≤j→((im.take j).any (mt2 im[j]))=false) ↔ Apart im:=by
  unfold Apart
  rw [List.pairwise_iff_getElem]
  constructor
  ·intro h i j hi hj hij hm
   have:=h j hj (by omega)
   rw [List.any_eq_false] at this
   refine this im[i] ?_ ((Zu4 (hv _ (List.getElem_mem hj)) (hv _ (List.getElem_mem hi))).2 (Zj2 hm))
   exact List.mem_take_iff_getElem.2 ⟨i,by omega,rfl⟩
  ·intro h j hj _
   rw [List.any_eq_false]
   intro x hx hm
   obtain⟨i,hi,rfl⟩:=List.mem_take_iff_getElem.1 hx
   exact h i j (by omega) hj (by omega) (Zj2 ((Zu4 (hv _ (List.getElem_mem hj)) (hv _ (List.getElem_mem _))).1 hm))
 rw [key] at o2 o3
 exact⟨o,o1,o2,o3⟩
end Go.AM
set_option maxRecDepth 100000
namespace Go.AM
open Go
noncomputable def prt (l:List Zk) (s:List Bx):=partsR (kp false (st s)).2 (kp false (st s)).1 (l.map frm)
theorem Zqq {l:List Zk} {s:List Bx} (h0:(imageA l s).2=0):(prt l s).2.2=false:=by
 unfold imageA at h0
 simp only at h0
 unfold prt
 generalize hr:partsR (kp false (st s)).2 (kp false (st s)).1 (l.map frm)=r at h0 ⊢
 generalize ho:imgR (r.2.2,[]) l r.1=o at h0
 have hfin:(uU o.1 o.2 r.2.1).2=false:=by
  cases h:(uU o.1 o.2 r.2.1).2 with
  | true=>rw [h] at h0; cases h0
  | false=>rfl
 have g1:=(kp_sem hfin).1
 have g2:(imgR (r.2.2,[]) l r.1).1=false:=by rw [ho]; exact g1
 exact Zr3 _ _ _ g2
theorem Zu6 (l:List Zk) (s:List Bx):(prt l s).1.length=l.length:=by unfold prt; rw [Zk0,List.length_map]
theorem prt_vs (l:List Zk) (s:List Bx):(∀ x∈(prt l s).1,VS x)∧VS (prt l s).2.1:=Zkk _ _ _ (kp_vs (st_ok s).1).1
theorem Zu7 (l:List Zk) (s:List Bx):∀ i (h:i<l.length),vM l[i]=false→(prt l s).1[i]? = some []:=fun i h hv=>
 Znk _ _ _ i (by rw [List.length_map]; exact h) (by rw [List.getElem_map,frm_v]; exact hv)
theorem Zxj {l:List Zk} (hin:∀ m∈l,MIn m) {s:List Bx} (hf:(prt l s).2.2=false):∀ x∈imgsR l (prt l s).1,VS x:=by
 refine Zu5 l _ hin (Zu6 l s) (prt_vs l s).1 (fun i h hv q hq p hp hm=>?_) (Zu7 l s)
 have e:(l.map frm)[i]'(by rw [List.length_map]; exact h)=(l[i]).From:=by rw [List.getElem_map]; unfold frm; rw [if_pos hv]
 have:=Zpj (l.map frm) (kp false (st s)).2 (kp false (st s)).1 (kp_vs (st_ok s).1).1 (frm_in hin) hf i (by rw [List.length_map]; exact h) (by rw [e]; exact(Zrb hv).1) q hq p hp hm
 rw [e] at this
 exact this
noncomputable def injA (l:List Zk) (s:List Bx):Bool × Int:=
 if (imageA l s).2 ≠ 0 then (false,(imageA l s).2) else (@decide (Apart ((prt l s).2.1 :: imgsP l (prt l s).1)) (Classical.propDecidable _),0)
theorem Znz {l:List Zk} {s:List Bx} (h0:(imageA l s).2=0):injA l s=(@decide (Apart ((prt l s).2.1 :: imgsP l (prt l s).1)) (Classical.propDecidable _),0):=by
 unfold injA; rw [if_neg (by simpa using h0)]
theorem Znn {l:List Zk} (hl:l.length≤1000) (hin:∀ m∈l,MIn m) {s:List Bx} (hs:InL s):Zdv l s=some (injA l s):=by
 unfold Zdv
 rw [Zxg (by omega) hin hs]
 simp only [Option.bind_some]
 by_cases h0:(imageA l s).2=0
 ·rw [if_neg (by simp [h0]),Znz h0,Zu0 (by omega),Zuz hs]
  simp only [Option.bind_some]
  rw [Ztm (by rw [List.length_map]; omega) (frm_in hin) (kp_vs (st_ok s).1).1]
  simp only [Option.bind_some]
  have hf:=Zqq h0
  have hv:=prt_vs l s
  have hi:=Zxj hin hf
  have hlen:=Zu6 l s
  have hb:=Zu7 l s
  rw [show partsR (kp false (st s)).2 (kp false (st s)).1 (l.map frm)=prt l s from rfl]
  rw [Inj_L1 (r7:=((prt l s).1,(prt l s).2.1,le (prt l s).2.2)) (by omega) hlen hv.1 [(prt l s).2.1] (by simp)]
  simp only [Option.bind_some]
  have hsub:(imgsP l (prt l s).1).length≤l.length:=by
   have:∀(l:List Zk) (ps:List (List Bx)),(imgsP l ps).length≤l.length:=by
    intro l
    induction l with
    | nil=>intro ps; unfold imgsP; simp
    | cons m l ih=>intro ps; cases ps with
     | nil=>unfold imgsP; simp
     | cons p ps=>
      have:=ih ps
      unfold imgsP
      split <;> simp <;> omega
   exact this l _
  obtain⟨o,o1,o2,o3⟩:=Inj_L2 (im:=[(prt l s).2.1]++imgsP l (prt l s).1) (by rw [List.length_append,List.length_singleton]; omega) (fun x hx=>by
   rcases List.mem_append.1 hx with h | h
   ·rw [List.mem_singleton] at h; rw [h]; exact hv.2
   ·exact hi x (Znm _ _ x h))
  rw [o1]
  by_cases hA:Apart ((prt l s).2.1 :: imgsP l (prt l s).1)
  ·rw [o2 hA]
   simp only [Option.bind_some,hA,decide_true]
  ·rw [o3 hA]
   simp only [Option.bind_some,hA,decide_false]
 ·rw [if_pos (by simpa using h0)]
  unfold injA
  rw [if_pos (by simpa using h0)]
end Go.AM
set_option maxRecDepth 100000
namespace Go.AM
open Go
theorem Zlc:∀(l:List Zk) (e:Bool) (s:List Bx),(∀ m∈l,MIn m)→VS s→(partsR e s (l.map frm)).2.2=false→∀ q,vP tops5 q→mem s q=true →
  (mtc l q=none→mem (partsR e s (l.map frm)).2.1 q=true)∧∀ m,mtc l q=some m→∃ y∈imgsP l (partsR e s (l.map frm)).1,mem y (padd q (dM m))=true
 | [],_,_,_,_,_,q,_,hq=>⟨fun _=>hq,fun m h=>by cases h⟩
 | m :: l,e,s,hin,hs,h1,q,hq,hm=>by
  have hmi:=hin m (List.mem_cons_self ..)
  have hin':∀ m∈l,MIn m:=fun x hx=>hin x (List.mem_cons_of_mem _ hx)
  rw [List.map_cons] at h1 ⊢
  by_cases hv:vM m=true
  ·have hf:vB (frm m)=true:=by rw [frm_v]; exact hv
   have ef:frm m=m.From:=by unfold frm; rw [if_pos hv]
   simp only [partsR,if_pos hf] at h1 ⊢
   rw [ef] at h1 ⊢ hf
   have g1:=Zhg _ _ _ h1
   obtain⟨g2,gS⟩:=kp_sem g1
   obtain⟨g3,gI⟩:=kp_sem g2
   have hI:mem (uI e s [m.From]).1 q=(mem s q && mB (toL m.From) q):=by
    have:=gI q hq
    rw [Zgp hs,Zg8 hf] at this
    exact this
   have hS:mem (uS (uI e s [m.From]).2 s [m.From]).1 q=(mem s q && !mB (toL m.From) q):=by
    have:=gS q hq
    rw [Zgp hs,Zg8 hf] at this
    exact this
   simp only [imgsP,if_pos hv]
   by_cases hb:mB (toL m.From) q=true
   ·have hmt:mtc (m :: l) q=some m:=by simp only [mtc,hv,hb,Bool.and_self,if_true]
    rw [hmt]
    refine⟨fun h=>(by cases h),fun m' h=>?_⟩
    simp only [Option.some.injEq] at h
    subst h
    refine⟨_,List.mem_cons_self ..,?_⟩
    have hPvs:=(uI_vs e s [m.From]).1
    obtain⟨_,sm⟩:=shM_ok (vM_MN hmi hv) hPvs fun p hp hmm=>by
     have:=gI p hp
     rw [Zgp hs,Zg8 hf] at this
     have e3:mem (uI e s [m.From]).1 p=(mem s p && mB (toL m.From) p):=this
     rw [e3,Bool.and_eq_true] at hmm
     exact hmm.2
    rw [sm _ (Zts (vM_MN hmi hv) hb hq).2,Zjn (dlen m hq),hI,hm,hb]
    rfl
   ·have hmt:mtc (m :: l) q=mtc l q:=by simp only [mtc,hv,Bool.true_and,if_neg hb]
    rw [hmt]
    rw [Bool.not_eq_true] at hb
    obtain⟨i1,i2⟩:=Zlc l _ _ hin' (uS_vs (uI e s [m.From]).2 s [m.From]).1 h1 q hq (by rw [hS,hm,hb]; rfl)
    exact⟨i1,fun m' h=>by obtain⟨y,hy,h2⟩:=i2 m' h; exact⟨y,List.mem_cons_of_mem _ hy,h2⟩⟩
  ·have hf:vB (frm m)=false:=by rw [frm_v]; simpa using hv
   have hv':vM m=false:=by simpa using hv
   simp only [partsR,hf,Bool.false_eq_true,if_false] at h1 ⊢
   have hmt:mtc (m :: l) q=mtc l q:=by simp only [mtc,hv',Bool.false_and,Bool.false_eq_true,if_false]
   rw [hmt]
   simp only [imgsP,if_neg hv]
   exact Zlc l e s hin' hs h1 q hq hm
theorem Zxk {m:Zk} {g h:List Int} (hg:vP tops5 g) (hh:vP tops5 h) (e:padd g (dM m)=padd h (dM m)):g=h:=by
 rw [← Zjn (dlen m hg),e,Zjn (dlen m hh)]
theorem Zno:∀(l:List Zk) (e:Bool) (s:List Bx),(∀ m∈l,MIn m)→VS s→(partsR e s (l.map frm)).2.2=false→Apart ((partsR e s (l.map frm)).2.1 :: imgsP l (partsR e s (l.map frm)).1) →
  ∀ g h,vP tops5 g→vP tops5 h→mem s g=true→mem s h=true→apP l g=apP l h→g=h
 | [],_,_,_,_,_,_,g,h,_,_,_,_,e=>e
 | m :: l,e,s,hin,hs,h1,hA,g,h,hg,hh,hmg,hmh,he=>by
  have hmi:=hin m (List.mem_cons_self ..)
  have hin':∀ m∈l,MIn m:=fun x hx=>hin x (List.mem_cons_of_mem _ hx)
  rw [List.map_cons] at h1 hA
  by_cases hv:vM m=true
  ·have hf:vB (frm m)=true:=by rw [frm_v]; exact hv
   have ef:frm m=m.From:=by unfold frm; rw [if_pos hv]
   simp only [partsR,if_pos hf] at h1 hA
   rw [ef] at h1 hA hf
   simp only [imgsP,if_pos hv] at hA
   have g1:=Zhg _ _ _ h1
   obtain⟨g2,gS⟩:=kp_sem g1
   obtain⟨g3,gI⟩:=kp_sem g2
   have hI:∀ q,vP tops5 q→mem (uI e s [m.From]).1 q=(mem s q && mB (toL m.From) q):=fun q hq=>by
    have:=gI q hq
    rw [Zgp hs,Zg8 hf] at this
    exact this
   have hS:∀ q,vP tops5 q→mem (uS (uI e s [m.From]).2 s [m.From]).1 q=(mem s q && !mB (toL m.From) q):=fun q hq=>by
    have:=gS q hq
    rw [Zgp hs,Zg8 hf] at this
    exact this
   have hPvs:=(uI_vs e s [m.From]).1
   obtain⟨_,sm⟩:=shM_ok (vM_MN hmi hv) hPvs fun p hp hmm=>by
    rw [hI p hp,Bool.and_eq_true] at hmm
    exact hmm.2
   unfold Apart at hA
   rw [List.pairwise_cons,List.pairwise_cons] at hA
   obtain⟨a1,a2,a3⟩:=hA
   have hA':Apart ((partsR (uS (uI e s [m.From]).2 s [m.From]).2 (uS (uI e s [m.From]).2 s [m.From]).1 (l.map frm)).2.1 :: imgsP l (partsR (uS (uI e s [m.From]).2 s [m.From]).2 (uS (uI e s [m.From]).2 s [m.From]).1 (l.map frm)).1):=
    List.pairwise_cons.2 ⟨fun y hy=>a1 y (List.mem_cons_of_mem _ hy),a3⟩
   have inF:∀ q,mB (toL m.From) q=true→apP (m :: l) q=padd q (dM m):=fun q hb=>by
    unfold apP; simp only [mtc,hv,hb,Bool.and_self,if_true]
   have outF:∀ q,mB (toL m.From) q=false→apP (m :: l) q=apP l q:=fun q hb=>by
    unfold apP; simp only [mtc,hv,hb,Bool.and_false,Bool.false_eq_true,if_false]
   have cross:∀ g h,vP tops5 g→vP tops5 h→mem s g=true→mem s h=true→mB (toL m.From) g=true→mB (toL m.From) h=false→apP (m :: l) g=apP (m :: l) h→False:=by
    intro g h hg hh hmg hmh b1 b2 he
    rw [inF g b1,outF h b2] at he
    have hp:=(Zts (vM_MN hmi hv) b1 hg).2
    have k1:mem (shM m (uI e s [m.From]).1) (padd g (dM m))=true:=by
     rw [sm _ hp,Zjn (dlen m hg),hI g hg,hmg,b1]; rfl
    obtain⟨c1,c2⟩:=Zlc l _ _ hin' (uS_vs (uI e s [m.From]).2 s [m.From]).1 h1 h hh (by rw [hS h hh,hmh,b2]; rfl)
    unfold apP at he
    cases hmt:mtc l h with
    | none=>
     rw [hmt] at he
     simp only at he
     rw [he] at k1 hp
     exact a1 _ (List.mem_cons_self ..) ⟨h,hh,c1 hmt,k1⟩
    | some m'=>
     rw [hmt] at he
     simp only at he
     obtain⟨y,hy,k2⟩:=c2 m' hmt
     rw [← he] at k2
     exact a2 y hy ⟨_,hp,k1,k2⟩
   cases b1:mB (toL m.From) g with
   | true=>cases b2:mB (toL m.From) h with
    | true=>rw [inF g b1,inF h b2] at he; exact Zxk hg hh he
    | false=>exact(cross g h hg hh hmg hmh b1 b2 he).elim
   | false=>cases b2:mB (toL m.From) h with
    | true=>exact(cross h g hh hg hmh hmg b2 b1 he.symm).elim
    | false=>
     rw [outF g b1,outF h b2] at he
     exact Zno l _ _ hin' (uS_vs (uI e s [m.From]).2 s [m.From]).1 h1 hA' g h hg hh (by rw [hS g hg,hmg,b1]; rfl) (by rw [hS h hh,hmh,b2]; rfl) he
  ·have hf:vB (frm m)=false:=by rw [frm_v]; simpa using hv
   have hv':vM m=false:=by simpa using hv
   simp only [partsR,hf,Bool.false_eq_true,if_false] at h1 hA
   simp only [imgsP,if_neg hv] at hA
   have hap:∀ q,apP (m :: l) q=apP l q:=fun q=>by unfold apP; simp only [mtc,hv',Bool.false_and,Bool.false_eq_true,if_false]
   rw [hap,hap] at he
   exact Zno l e s hin' hs h1 hA g h hg hh hmg hmh he
theorem Zyk {l:List Zk} (hin:∀ m∈l,MIn m) {s:List Bx} (h0:(injA l s).2=0) (h1:(injA l s).1=true) {g h:List Int} (hg:vP tops5 g) (hh:vP tops5 h) (hmg:mem (s.filter vB) g=true) (hmh:mem (s.filter vB) h=true) (he:apP l g=apP l h):g=h:=by
 have hi:(imageA l s).2=0:=by
  apply Classical.byContradiction
  intro hn
  unfold injA at h0
  rw [if_pos hn] at h0
  exact hn h0
 rw [Znz hi] at h1
 have hA:Apart ((prt l s).2.1 :: imgsP l (prt l s).1):=by
  have:=@of_decide_eq_true _ (Classical.propDecidable _) h1
  exact this
 have hf:=Zqq hi
 have hk:(kp false (st s)).2=false:=Zhg _ _ _ hf
 have es:=st_kp hk
 exact Zno l _ _ hin (kp_vs (st_ok s).1).1 hf hA g h hg hh (by rw [es g hg]; exact hmg) (by rw [es h hh]; exact hmh) he
def Small (s:List Bx):Prop:=∀ p q,vP tops5 p→vP tops5 q→mem s p=true→mem s q=true→p=q
def ptB (p:List Int):Bx:=ofL (p.map fun v=>⟨v,v⟩)
theorem ptB_ok {p:List Int} (hp:vP tops5 p):BOk (ptB p)∧∀ q,vP tops5 q→(mB (toL (ptB p)) q=true ↔ q=p):=by
 obtain⟨a,b,c,d,e,rfl⟩:=Zrd hp
 simp only [tops5,vP] at hp
 refine⟨⟨⟨by show 0≤a; omega,by show a≤a; omega,by show a≤4294967295; omega⟩,⟨by show 0≤b; omega,by show b≤b; omega,by show b≤4294967295; omega⟩,⟨by show 0≤c; omega,by show c≤c; omega,by show c≤255; omega⟩,⟨by show 0≤d; omega,by show d≤d; omega,by show d≤65535; omega⟩,⟨by show 0≤e; omega,by show e≤e; omega,by show e≤65535; omega⟩⟩,fun q hq=>?_⟩
 obtain⟨a',b',c',d',e',rfl⟩:=Zrd hq
 simp only [ptB,ofL,toL,List.map_cons,List.map_nil,mB,Bool.and_eq_true,Zc1,List.cons.injEq,and_true]
 omega
theorem Zwk {s:List Bx} (hs:CFb s) (h:Small s):s.length≤1:=by
 by_cases h0:s=[]
 ·rw [h0]; simp
 ·have:∃ p,vP tops5 p∧mem s p=true:=by
   apply Classical.byContradiction
   intro hn
   exact h0 (hs.nil_iff.2 fun p hp=>by
    cases hm:mem s p with
    | false=>rfl
    | true=>exact absurd ⟨p,hp,hm⟩ hn)
  obtain⟨p,hp,hm⟩:=this
  obtain⟨b1,b2⟩:=ptB_ok hp
  have:s=[ptB p]:=hs.inj (CFb.single b1) fun q hq=>by
   rw [Zny,Bool.eq_iff_iff,b2 q hq]
   exact⟨fun h2=>h q p hq hp h2 hm,fun h2=>h2 ▸ hm⟩
  rw [this]
  simp
theorem Zk2 {op:Bool→Bool→Bool} {a b:List Bx} (ha:VS a) (hb:VS b) (h:∀ p q,vP tops5 p→vP tops5 q→op (mem a p) (mem b p)=true→op (mem a q) (mem b q)=true→p=q):(kp false (cmb op a b)).2=false:=by
 have e:cmb op a b=capB (can op a b):=by
  unfold cmb
  rw [Zh6 ha,Zh6 hb]
  simp
 have hC:=Zf9 op a b
 have hl:=Zwk hC.cf fun p q hp hq h1 h2=>h p q hp hq (by rw [← hC.mem p hp]; exact h1) (by rw [← hC.mem q hq]; exact h2)
 rw [e]
 unfold capB
 rw [if_pos (by omega)]
 rfl
theorem VS.box {b:Bx} (h:BOk b):VS [b]:=VS.of (CFb.single h) (by simp)
theorem Zre {L:List (List Bx)} (h:Apart L):Apart ([] :: L):=List.pairwise_cons.2 ⟨fun y _ hm=>Zk1 _ (Zj2 hm),h⟩
theorem Zit:∀(l:List Zk) (s out:List Bx),(∀ m∈l,MIn m)→VS s→VS out→Small s→Small out→(s=[]∨out=[]) →
  (partsR false s (l.map frm)).2.2=false∧(imgR (false,out) l (partsR false s (l.map frm)).1).1=false∧(Small (partsR false s (l.map frm)).2.1∧Small (imgR (false,out) l (partsR false s (l.map frm)).1).2∧((partsR false s (l.map frm)).2.1=[]∨(imgR (false,out) l (partsR false s (l.map frm)).1).2=[])) ∧
  Apart ((partsR false s (l.map frm)).2.1 :: imgsP l (partsR false s (l.map frm)).1)∧(s=[]→(partsR false s (l.map frm)).2.1=[]∧∀ y∈imgsP l (partsR false s (l.map frm)).1,y=[])
 | [],s,out,_,_,_,h1,h2,h3=>⟨rfl,rfl,⟨h1,h2,h3⟩,List.pairwise_singleton _ _,fun h=>⟨h,fun y hy=>by unfold imgsP at hy; cases hy⟩⟩
 | m :: l,s,out,hin,hs,ho,h1,h2,h3=>by
  have hmi:=hin m (List.mem_cons_self ..)
  have hin':∀ m∈l,MIn m:=fun x hx=>hin x (List.mem_cons_of_mem _ hx)
  rw [List.map_cons]
  by_cases hv:vM m=true
  ·have hf:vB (frm m)=true:=by rw [frm_v]; exact hv
   have ef:frm m=m.From:=by unfold frm; rw [if_pos hv]
   have hMN:=vM_MN hmi hv
   rw [ef] at hf
   have hF:VS [m.From]:=VS.box (vB_ok hmi.f hf)
   have eI:(uI false s [m.From]).2=false:=Zk2 hs hF fun p q hp hq a b=>by
    simp only [oA,Bool.and_eq_true] at a b
    exact h1 p q hp hq a.1 b.1
   have eS:(uS (uI false s [m.From]).2 s [m.From]).2=false:=by
    rw [eI]
    exact Zk2 hs hF fun p q hp hq a b=>by
     simp only [oW,Bool.and_eq_true] at a b
     exact h1 p q hp hq a.1 b.1
   obtain⟨_,gI⟩:=kp_sem eI
   obtain⟨_,gS⟩:=kp_sem eS
   have hI:∀ q,vP tops5 q→mem (uI false s [m.From]).1 q=(mem s q && mB (toL m.From) q):=fun q hq=>by
    have:=gI q hq
    rw [Zgp hs,Zg8 hf] at this
    exact this
   have hS:∀ q,vP tops5 q→mem (uS (uI false s [m.From]).2 s [m.From]).1 q=(mem s q && !mB (toL m.From) q):=fun q hq=>by
    have:=gS q hq
    rw [Zgp hs,Zg8 hf] at this
    exact this
   have hPvs:=(uI_vs false s [m.From]).1
   have hSvs:=(uS_vs (uI false s [m.From]).2 s [m.From]).1
   have hPs:Small (uI false s [m.From]).1:=fun p q hp hq a b=>by
    rw [hI p hp,Bool.and_eq_true] at a
    rw [hI q hq,Bool.and_eq_true] at b
    exact h1 p q hp hq a.1 b.1
   have hSs:Small (uS (uI false s [m.From]).2 s [m.From]).1:=fun p q hp hq a b=>by
    rw [hS p hp,Bool.and_eq_true] at a
    rw [hS q hq,Bool.and_eq_true] at b
    exact h1 p q hp hq a.1 b.1
   obtain⟨sv,sm⟩:=shM_ok hMN hPvs fun p hp hmm=>by
    rw [hI p hp,Bool.and_eq_true] at hmm
    exact hmm.2
   simp only [partsR,ef,if_pos hf,imgR,imgsP,if_pos hv]
   have est:istep (false,out) m (uI false s [m.From]).1=((uU false out (shM m (uI false s [m.From]).1)).2,(uU false out (shM m (uI false s [m.From]).1)).1):=by unfold istep; rw [if_pos hv]
   rw [est,eS]
   by_cases hP:(uI false s [m.From]).1=[]
   ·have e0:shM m []=[]:=rfl
    rw [hP,e0,uU_nil ho (fun h=>by cases h)]
    obtain⟨i1,i2,i3,i4,i5⟩:=Zit l (uS (uI false s [m.From]).2 s [m.From]).1 out hin' hSvs ho hSs h2 (h3.imp (fun h=>(hSvs.cf.nil_iff).2 fun p hp=>by rw [hS p hp,h,Zgo]; rfl) id)
    refine⟨i1,i2,i3,?_,fun h=>?_⟩
    ·unfold Apart at i4 ⊢
     rw [List.pairwise_cons] at i4
     refine List.pairwise_cons.2 ⟨fun y hy=>?_,Zre i4.2⟩
     rcases List.mem_cons.1 hy with rfl | hy
     ·exact Zk1 _
     ·exact i4.1 y hy
    ·have hS0:(uS (uI false s [m.From]).2 s [m.From]).1=[]:=(hSvs.cf.nil_iff).2 fun p hp=>by rw [hS p hp,h,Zgo]; rfl
     have:=i5 hS0
     exact⟨this.1,fun y hy=>(List.mem_cons.1 hy).elim id (this.2 y)⟩
   ·
    have hex:∃ p,vP tops5 p∧mem (uI false s [m.From]).1 p=true:=by
     apply Classical.byContradiction
     intro hn
     exact hP (hPvs.cf.nil_iff.2 fun p hp=>by
      cases hm:mem (uI false s [m.From]).1 p with
      | false=>rfl
      | true=>exact absurd ⟨p,hp,hm⟩ hn)
    obtain⟨p0,hp0,hm0⟩:=hex
    rw [hI p0 hp0,Bool.and_eq_true] at hm0
    have hsn:s ≠ []:=fun h=>by rw [h,Zgo] at hm0; cases hm0.1
    have hout:out=[]:=h3.resolve_left hsn
    have hS0:(uS (uI false s [m.From]).2 s [m.From]).1=[]:=(hSvs.cf.nil_iff).2 fun p hp=>by
     rw [hS p hp]
     cases hmp:mem s p with
     | false=>rfl
     | true=>
      have:=h1 p p0 hp hp0 hmp hm0.1
      rw [this,hm0.2]; rfl
    have hshs:Small (shM m (uI false s [m.From]).1):=fun p q hp hq a b=>by
     rw [sm p hp] at a
     rw [sm q hq] at b
     have val:∀ z,mem (uI false s [m.From]).1 z=true→vP tops5 z:=fun z hz=>by
      obtain⟨bx,hbx,hbm⟩:=mS_iff.1 hz
      obtain⟨x,hx,rfl⟩:=List.mem_map.1 hbx
      exact vP_of (ok_vR (hPvs.ok x hx)) hbm
     have:=hPs _ _ (val _ a) (val _ b) a b
     rw [← Znl (dlen m hp),this,Znl (dlen m hq)]
    have eU:(uU false out (shM m (uI false s [m.From]).1)).2=false:=Zk2 ho sv fun p q hp hq a b=>by
     rw [hout,Zgo,oO,Bool.false_or] at a b
     exact hshs p q hp hq a b
    obtain⟨_,gU⟩:=kp_sem eU
    have hUs:Small (uU false out (shM m (uI false s [m.From]).1)).1:=fun p q hp hq a b=>by
     have e1:=gU p hp
     have e2:=gU q hq
     rw [Zgp ho,Zgp sv,hout,Zgo,oO,Bool.false_or] at e1 e2
     rw [hout] at a b
     have e1':mem (uU false [] (shM m (uI false s [m.From]).1)).1 p=mem (shM m (uI false s [m.From]).1) p:=e1
     have e2':mem (uU false [] (shM m (uI false s [m.From]).1)).1 q=mem (shM m (uI false s [m.From]).1) q:=e2
     rw [e1'] at a
     rw [e2'] at b
     exact hshs p q hp hq a b
    rw [eU]
    obtain⟨i1,i2,i3,i4,i5⟩:=Zit l (uS (uI false s [m.From]).2 s [m.From]).1 (uU false out (shM m (uI false s [m.From]).1)).1 hin' hSvs (uU_vs _ _ _).1 hSs hUs (Or.inl hS0)
    obtain⟨j1,j2⟩:=i5 hS0
    refine⟨i1,i2,i3,?_,fun h=>absurd h hsn⟩
    unfold Apart at i4 ⊢
    rw [List.pairwise_cons] at i4
    refine List.pairwise_cons.2 ⟨fun y _ hm=>by rw [j1] at hm; exact Zk1 _ (Zj2 hm),List.pairwise_cons.2 ⟨fun y hy hm=>?_,i4.2⟩⟩
    rw [j2 y hy] at hm
    exact Zk1 _ hm
  ·have hf:vB (frm m)=false:=by rw [frm_v]; simpa using hv
   simp only [partsR,hf,Bool.false_eq_true,if_false,imgR,imgsP,if_neg hv]
   have est:istep (false,out) m []=(false,out):=by unfold istep; rw [if_neg hv]
   rw [est]
   exact Zit l s out hin' hs ho h1 h2 h3
theorem Zvp {l:List Zk} (hin:∀ m∈l,MIn m) {b:Bx} (hb:BOk b) (hs:Small [b]):injA l [b]=(true,0):=by
 have hv:VS [b]:=VS.box hb
 have hk:kp false (st [b])=([b],false):=by rw [Zh6 hv]; rfl
 obtain⟨i1,i2,⟨i3,i4,i5⟩,i6,_⟩:=Zit l [b] [] hin hv VS.nil hs (fun p q _ _ a=>by cases a) (Or.inr rfl)
 have hpv:=Zkk (l.map frm) false [b] hv
 have hio:=Zrc l (partsR false [b] (l.map frm)).1 (false,[]) ⟨VS.nil,fun _=>rfl⟩
 have h0:(imageA l [b]).2=0:=by
  unfold imageA
  simp only [hk,i1,i2]
  have e:(uU false (imgR (false,[]) l (partsR false [b] (l.map frm)).1).2 (partsR false [b] (l.map frm)).2.1).2=false:=Zk2 hio.vs hpv.2 fun p q hp hq a c=>by
   simp only [oO,Bool.or_eq_true] at a c
   rcases i5 with h | h
   ·rw [h,Zgo] at a c
    exact i4 p q hp hq (a.resolve_right (by simp)) (c.resolve_right (by simp))
   ·rw [h,Zgo] at a c
    exact i3 p q hp hq (a.resolve_left (by simp)) (c.resolve_left (by simp))
  rw [e]
  rfl
 rw [Znz h0]
 have hp:prt l [b]=partsR false [b] (l.map frm):=by unfold prt; rw [hk]
 have hA:Apart ((prt l [b]).2.1 :: imgsP l (prt l [b]).1):=by rw [hp]; exact i6
 congr 1
 exact @decide_eq_true _ (Classical.propDecidable _) hA
theorem ofB_ok {h:Zm} (hh:Zaw h):BOk (ofB (hv h))∧Small [ofB (hv h)]:=by
 obtain⟨h1,h2⟩:=ptB_ok (pt_ok hh)
 have e:ofB (hv h)=ptB (pt h):=rfl
 rw [e]
 refine⟨h1,fun p q hp hq a b=>?_⟩
 rw [Zny] at a b
 rw [(h2 p hp).1 a,(h2 q hq).1 b]
theorem eq_hd (g h:Zm):Zfa g h=true ↔ g=h:=by
 obtain⟨a,b,c,d,e⟩:=g
 obtain⟨a',b',c',d',e'⟩:=h
 simp [Zfa]
theorem Zlu {t:List Int} {g h:Zm} (ht:Zo4 t) (hg:Zaw g) (hh:Zaw h):Zdy t g h=some true:=by
 have hsane:Zhb=some true:=rfl
 refine Ok.eq ?_
 unfold Zdy
 refine Ok.bind (New_ok (Zxv ht)) fun r1 h1=>Ok.bind (Zxi true h1 (by omega) (by omega)) fun r3 ⟨m1,m2,m3⟩=>Ok.bind (Zwt true m3 (by omega) (by omega)) fun r5 ⟨b1,b2,b3⟩=>?_
 have hl:r3.1.length≤1000:=by omega
 have hs:InL r5.1:=⟨by omega,fun x hx=>(b1 x hx).1⟩
 rw [Znn hl m1 hs]
 refine Ok.lift (Ok.ite (fun hc=>?_) fun hc=>?_)
 ·have hi:¬ (imageA r3.1 r5.1).2=0:=fun h0=>by rw [Znz h0] at hc; simp at hc
  have e:injA r3.1 r5.1=(false,3):=by
   unfold injA
   rw [if_pos hi,(Zwj r3.1 r5.1).three hi]
  rw [e]
  simp only [Option.bind_some,beq_self_eq_true,Bool.not_false,Bool.and_self,if_true,hsane]
  exact Ok.ret rfl
 ·have h0:(injA r3.1 r5.1).2=0:=by simpa using hc
  refine Ok.bind (p:=fun o=>Zaw o.1∧Zaw o.2.1) ?_ fun o ⟨o1,o2⟩=>?_
  ·refine Ok.bind (Zb7 b3 2 (by omega) (by omega)) fun r36 ⟨_,n1⟩=>Ok.ite (fun _=>?_) fun _=>Ok.ret ⟨hg,hh⟩
   exact Ok.bind (Zqp m1 (by omega)) fun r38 ⟨d1,d2⟩=>Ok.bind (Zu3 n1 d1 (by omega)) fun r40 ⟨n2,n3⟩=>Ok.bind (Zqp m1 (by omega)) fun r42 ⟨d3,d4⟩=>Ok.bind (Zu3 n3 d3 (by omega)) fun r44 ⟨n4,n5⟩=>Ok.ret ⟨n2,n4⟩
  ·obtain⟨g',h',t'⟩:=o
   simp only at o1 o2 ⊢
   rw [Zov o1 (by omega),Zov o2 (by omega),Zs9 o1 m1 (by omega),Zs9 o2 m1 (by omega),rOf_eq o1]
   simp only [Option.bind_some]
   have hv:VS [ofB (hv g')]:=VS.box (ofB_ok o1).1
   rw [Znn hl m1 hv.inL,Zvp m1 (ofB_ok o1).1 (ofB_ok o1).2]
   have hno:mem (r5.1.filter vB) (pt g')=true→mem (r5.1.filter vB) (pt h')=true→¬ g'=h'→Zfa (aM r3.1 g') (aM r3.1 h')=true→(injA r3.1 r5.1).1=true→False:=fun k1 k2 k3 k4 k5=>by
    rw [eq_hd] at k4
    exact k3 (pt_inj (Zyk m1 h0 k5 (pt_ok o1) (pt_ok o2) k1 k2 (by rw [← pt_aM,← pt_aM,k4])))
   cases c1:mem (r5.1.filter vB) (pt g') with
   | false=>
    simp only [Option.bind_some,Bool.false_eq_true,if_false,Bool.false_and,beq_self_eq_true,Bool.and_self,if_true,hsane]
    exact Ok.ret rfl
   | true=>cases c2:mem (r5.1.filter vB) (pt h') with
    | false=>
     simp only [Option.bind_some,Bool.false_eq_true,if_false,Bool.false_and,beq_self_eq_true,Bool.and_self,if_true,hsane]
     exact Ok.ret rfl
    | true=>cases c3:Zfa g' h' with
     | true=>
      simp only [Option.bind_some,Bool.false_eq_true,if_false,Bool.false_and,beq_self_eq_true,Bool.and_self,if_true,hsane,Bool.not_true,Bool.and_false]
      exact Ok.ret rfl
     | false=>
      have c3':¬ g'=h':=fun e=>by rw [(eq_hd _ _).2 e] at c3; cases c3
      simp only [Option.bind_some,Bool.false_eq_true,if_false,beq_self_eq_true,Bool.and_self,if_true,hsane,Bool.not_false]
      cases c4:(Zfa (aM r3.1 g') (aM r3.1 h') && (injA r3.1 r5.1).1) with
      | false=>
       simp only [Bool.false_eq_true,if_false]
       exact Ok.ret rfl
      | true=>
       exfalso
       simp only [Bool.and_eq_true] at c4
       exact hno c1 c2 c3' c4.1 c4.2
end Go.AM

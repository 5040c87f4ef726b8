/- Parts of a proof, printed short. No condition. -/
import Derived.Sort.LotD5
import Derived.Lib.Mul64
import Derived.Test.YtdpogkakaeeccaaGreatDoorCoQ5
set_option maxRecDepth 100000
namespace Go.AM
open Go
theorem Zx2 {n:Nat} (hB:n≤sB):∀(k i j m:Nat) (d:Array Int),d.size=n→j - i≤k→k<m→j<n→i≤n →
  Zao n m d.toList (i:Int) (j:Int)=some (Sort.reverseLoop i j d).toList:=by
 intro k
 induction k with
 | zero=>
  intro i j m d hd hk hm hj hi
  cases m with
  | zero=>omega
  | succ m=>rw [Zao,Sort.reverseLoop,if_neg (by simp; omega),if_neg (by omega)]
 | succ k ih=>
  intro i j m d hd hk hm hj hi
  cases m with
  | zero=>omega
  | succ m=>
  have hB':=hB
  unfold sB at hB
  rw [Zao,Sort.reverseLoop]
  by_cases h:i<j
  ·rw [if_pos (decide_eq_true (by omega)),if_pos h]
   obtain⟨y,hy⟩:=Zeb (i:=i) (x:=d[j]!) hd hj
   simp only [Zx hd hj,Zx hd (show i<n by omega),Option.bind_some,Int.toNat_natCast,hy,Zeh]
   obtain⟨j',rfl⟩:∃ j',j=j' + 1:=⟨j - 1,by omega⟩
   rw [wsuc (by omega),wpred (by omega)]
   exact ih (i + 1) j' m _ (by rw [swp_sz,hd]) (by omega) (by omega) (by omega) (by omega)
  ·rw [if_neg (by simp; omega),if_neg h]
theorem Zr5 {n a b:Nat} (hB:n≤sB) (hab:a<b) (hb:b≤n) {d:Array Int} (hd:d.size=n):Za7 n d.toList (a:Int) (b:Int)=some (Sort.reverseRange d a b).toList:=by
 have hB':=hB
 unfold sB at hB
 unfold Za7 Sort.reverseRange
 obtain⟨b',rfl⟩:∃ b',b=b' + 1:=⟨b - 1,by omega⟩
 rw [wpred (by omega),Zx2 hB' (b' - a) a b' fuel d hd (Nat.le_refl _) (by unfold fuel; omega) (by omega) (by omega)]
 rfl
theorem up_eq {n a:Nat} {L:Nat→Int→Option Int} (hB:n≤sB) {d:Array Int} (p:Int→Bool) {j:Nat} (hj:j<n) (_ha:a<n)
  (step:∀ m (i:Nat),i≤sB + 1→L (m + 1) (i:Int)=if i≤j∧p d[i]! = true then L m ((i + 1:Nat):Int) else some (i:Int)) :
  ∀(k i m:Nat),j + 1 - i≤k→k<m→i≤j + 2→L m (i:Int)=some ((Sort.scanUp p d j i:Nat):Int):=by
 unfold sB at hB
 intro k
 induction k with
 | zero=>
  intro i m hk hm hi
  cases m with
  | zero=>omega
  | succ m=>
  rw [step m i (by unfold sB; omega),if_neg (by omega),Sort.scanUp,if_neg (by simp; omega)]
 | succ k ih=>
  intro i m hk hm hi
  cases m with
  | zero=>omega
  | succ m=>
  rw [step m i (by unfold sB; omega),Sort.scanUp]
  by_cases h:i≤j∧p d[i]! = true
  ·rw [if_pos h,if_pos (by simp [h.1,h.2])]
   exact ih (i + 1) m (by omega) (by omega) (by omega)
  ·rw [if_neg h,if_neg (by simpa using h)]
theorem Zsz {n i:Nat} {L:Nat→Int→Option Int} (hi:0<i) {d:Array Int} (p:Int→Bool)
  (step:∀ m (j:Nat),j<n→L (m + 1) (j:Int)=if i≤j∧p d[j]! = true then L m ((j:Int) - 1) else some (j:Int)) :
  ∀(j m:Nat),j<m→j<n→L m (j:Int)=some ((Sort.scanDown p d i j:Nat):Int):=by
 intro j
 induction j with
 | zero=>
  intro m hm hj
  cases m with
  | zero=>omega
  | succ m=>rw [step m 0 hj,if_neg (by omega)]; rfl
 | succ j ih=>
  intro m hm hj
  cases m with
  | zero=>omega
  | succ m=>
  rw [step m (j + 1) hj,Sort.scanDown]
  by_cases h:i≤j + 1∧p d[j + 1]! = true
  ·rw [if_pos h,if_pos (by simp [h.1,h.2]),show ((j + 1:Nat):Int) - 1=(j:Int) by omega]
   exact ih m (by omega) (by omega)
  ·rw [if_neg h,if_neg (by simpa using h)]
theorem pe2_eq {n a j:Nat} (hB:n≤sB) {d:Array Int} (hd:d.size=n) (ha:a<n) (hj:j<n) (i:Nat) (hi:i≤j + 2):Zau n (a:Int) d.toList (j:Int) fuel (i:Int)=some ((Sort.scanUp (fun x=>!Sort.ltInt d[a]! x) d j i:Nat):Int):=by
 refine up_eq hB (d:=d) (fun x=>!Sort.ltInt d[a]! x) hj ha (fun m i hi=>?_) (j + 1) i fuel (by omega) (by unfold sB at hB; unfold fuel; omega) hi
 unfold sB at hB hi
 rw [Zau]
 by_cases h:i≤j
 ·rw [decide_eq_true (show (i:Int)≤(j:Int) by omega)]
  simp only [Option.bind_some,if_true,Zx hd ha,Zx hd (show i<n by omega),Zez,wsuc (show i + 1<1000000000000 by omega),h,true_and]
 ·rw [decide_eq_false (show ¬ (i:Int)≤(j:Int) by omega)]
  simp [h]
theorem pe3_eq {n a i:Nat} (hB:n≤sB) {d:Array Int} (hd:d.size=n) (ha:a<n) (hi:0<i) (j:Nat) (hj:j<n):Zav n (a:Int) d.toList (i:Int) fuel (j:Int)=some ((Sort.scanDown (fun x=>Sort.ltInt d[a]! x) d i j:Nat):Int):=by
 refine Zsz hi (n:=n) (d:=d) (fun x=>Sort.ltInt d[a]! x) (fun m j hj=>?_) j fuel (by unfold sB at hB; unfold fuel; omega) hj
 unfold sB at hB
 rw [Zav]
 by_cases h:i≤j
 ·rw [decide_eq_true (show (i:Int)≤(j:Int) by omega)]
  simp only [Option.bind_some,if_true,Zx hd ha,Zx hd hj,Zez,wi64 (show -9223372036854775808≤(j:Int) - 1 by omega) (show (j:Int) - 1<9223372036854775808 by omega),h,true_and]
 ·rw [decide_eq_false (show ¬ (i:Int)≤(j:Int) by omega)]
  simp [h]
theorem pe1_eq {n a:Nat} (hB:n≤sB) (ha:a<n):∀(k i j m:Nat) (d:Array Int),d.size=n→j + 1 - i≤k→k<m→i≤j + 2→a<i→j<n →
  Zai n (a:Int) m d.toList (i:Int) (j:Int)=some ((Sort.partEqLoop Sort.ltInt a i j d).2.toList,((Sort.partEqLoop Sort.ltInt a i j d).1:Int)):=by
 intro k
 induction k with
 | zero=>
  intro i j m d hd hk hm hij hai hj
  cases m with
  | zero=>omega
  | succ m=>
  have h1:Sort.scanUp (fun x=>!Sort.ltInt d[a]! x) d j i=i:=by rw [Sort.scanUp,if_neg (by simp; omega)]
  have h2:Sort.scanDown (fun x=>Sort.ltInt d[a]! x) d i j≤j:=Sort.scanDown_le _ _ _ _
  rw [Zai,pe2_eq hB hd ha hj i hij,Sort.partEqLoop_eq,h1]
  simp only [Option.bind_some]
  rw [pe3_eq hB hd ha (by omega) j hj]
  simp only [Option.bind_some]
  rw [if_pos (decide_eq_true (by omega)),if_pos (by omega)]
 | succ k ih=>
  intro i j m d hd hk hm hij hai hj
  cases m with
  | zero=>omega
  | succ m=>
  have hB':=hB
  unfold sB at hB
  rw [Zai,pe2_eq hB' hd ha hj i hij,Sort.partEqLoop_eq]
  simp only [Option.bind_some]
  have g1:=Sort.scanUp_ge (fun x=>!Sort.ltInt d[a]! x) d j i
  generalize Sort.scanUp (fun x=>!Sort.ltInt d[a]! x) d j i=i2 at g1 ⊢
  rw [pe3_eq hB' hd ha (by omega) j hj]
  simp only [Option.bind_some]
  have g2:=Sort.scanDown_le (fun x=>Sort.ltInt d[a]! x) d i2 j
  generalize Sort.scanDown (fun x=>Sort.ltInt d[a]! x) d i2 j=j2 at g2 ⊢
  by_cases h:i2 > j2
  ·rw [if_pos (decide_eq_true (by omega)),if_pos h]
  ·rw [if_neg (by simp; omega),if_neg h]
   obtain⟨y,hy⟩:=Zeb (i:=i2) (x:=d[j2]!) hd (show j2<n by omega)
   simp only [Zx hd (show j2<n by omega),Zx hd (show i2<n by omega),Option.bind_some,Int.toNat_natCast,hy,Zeh]
   obtain⟨j',rfl⟩:∃ j',j2=j' + 1:=⟨j2 - 1,by omega⟩
   rw [wsuc (by omega),wpred (by omega)]
   exact ih (i2 + 1) j' m _ (by rw [swp_sz,hd]) (by omega) (by omega) (by omega) (by omega) (by omega)
theorem Zpc {n a b p:Nat} (hB:n≤sB) (hb:b≤n) (hp0:a≤p) (hp:p<b) {d:Array Int} (hd:d.size=n) :
  Zbk n d.toList (a:Int) (b:Int) (p:Int)=some (((Sort.partitionEqual Sort.ltInt d a b p).1:Int),(Sort.partitionEqual Sort.ltInt d a b p).2.toList):=by
 have hB':=hB
 unfold sB at hB
 unfold Zbk Sort.partitionEqual
 obtain⟨y,hy⟩:=Zeb (i:=a) (x:=d[p]!) hd (show p<n by omega)
 simp only [Zx hd (show p<n by omega),Zx hd (show a<n by omega),Option.bind_some,Int.toNat_natCast,hy,Zeh]
 obtain⟨b',rfl⟩:∃ b',b=b' + 1:=⟨b - 1,by omega⟩
 rw [wsuc (by omega),wpred (by omega),pe1_eq hB' (by omega) (b' + 1 - (a + 1)) (a + 1) b' fuel _ (by rw [swp_sz,hd]) (Nat.le_refl _) (by unfold fuel; omega) (by omega) (by omega) (by omega)]
 rfl
theorem pa4_eq {n a j:Nat} (hB:n≤sB) {d:Array Int} (hd:d.size=n) (ha:a<n) (hj:j<n) (i:Nat) (hi:i≤j + 2):Zba n (a:Int) d.toList (j:Int) fuel (i:Int)=some ((Sort.scanUp (fun x=>Sort.ltInt x d[a]!) d j i:Nat):Int):=by
 refine up_eq hB (d:=d) (fun x=>Sort.ltInt x d[a]!) hj ha (fun m i hi=>?_) (j + 1) i fuel (by omega) (by unfold sB at hB; unfold fuel; omega) hi
 unfold sB at hB hi
 rw [Zba]
 by_cases h:i≤j
 ·rw [decide_eq_true (show (i:Int)≤(j:Int) by omega)]
  simp only [Option.bind_some,if_true,Zx hd ha,Zx hd (show i<n by omega),Zez,wsuc (show i + 1<1000000000000 by omega),h,true_and]
 ·rw [decide_eq_false (show ¬ (i:Int)≤(j:Int) by omega)]
  simp [h]
theorem pa5_eq {n a i:Nat} (hB:n≤sB) {d:Array Int} (hd:d.size=n) (ha:a<n) (hi:0<i) (j:Nat) (hj:j<n):Zbb n (a:Int) d.toList (i:Int) fuel (j:Int)=some ((Sort.scanDown (fun x=>!Sort.ltInt x d[a]!) d i j:Nat):Int):=by
 refine Zsz hi (n:=n) (d:=d) (fun x=>!Sort.ltInt x d[a]!) (fun m j hj=>?_) j fuel (by unfold sB at hB; unfold fuel; omega) hj
 unfold sB at hB
 rw [Zbb]
 by_cases h:i≤j
 ·rw [decide_eq_true (show (i:Int)≤(j:Int) by omega)]
  simp only [Option.bind_some,if_true,Zx hd ha,Zx hd hj,Zez,wi64 (show -9223372036854775808≤(j:Int) - 1 by omega) (show (j:Int) - 1<9223372036854775808 by omega),h,true_and]
 ·rw [decide_eq_false (show ¬ (i:Int)≤(j:Int) by omega)]
  simp [h]
theorem pa3_eq {n a:Nat} (hB:n≤sB) (ha:a<n):∀(k i j m:Nat) (d:Array Int),d.size=n→j + 1 - i≤k→k<m→i≤j + 2→a<i→j<n →
  Zaw n (a:Int) m d.toList (i:Int) (j:Int)=some ((Sort.partLoop Sort.ltInt a i j d).2.toList,((Sort.partLoop Sort.ltInt a i j d).1:Int)):=by
 intro k
 induction k with
 | zero=>
  intro i j m d hd hk hm hij hai hj
  cases m with
  | zero=>omega
  | succ m=>
  have h1:Sort.scanUp (fun x=>Sort.ltInt x d[a]!) d j i=i:=by rw [Sort.scanUp,if_neg (by simp; omega)]
  have h2:Sort.scanDown (fun x=>!Sort.ltInt x d[a]!) d i j≤j:=Sort.scanDown_le _ _ _ _
  rw [Zaw,pa4_eq hB hd ha hj i hij,Sort.partLoop_eq,h1]
  simp only [Option.bind_some]
  rw [pa5_eq hB hd ha (by omega) j hj]
  simp only [Option.bind_some]
  rw [if_pos (decide_eq_true (by omega)),if_pos (by omega)]
 | succ k ih=>
  intro i j m d hd hk hm hij hai hj
  cases m with
  | zero=>omega
  | succ m=>
  have hB':=hB
  unfold sB at hB
  rw [Zaw,pa4_eq hB' hd ha hj i hij,Sort.partLoop_eq]
  simp only [Option.bind_some]
  have g1:=Sort.scanUp_ge (fun x=>Sort.ltInt x d[a]!) d j i
  generalize Sort.scanUp (fun x=>Sort.ltInt x d[a]!) d j i=i2 at g1 ⊢
  rw [pa5_eq hB' hd ha (by omega) j hj]
  simp only [Option.bind_some]
  have g2:=Sort.scanDown_le (fun x=>!Sort.ltInt x d[a]!) d i2 j
  generalize Sort.scanDown (fun x=>!Sort.ltInt x d[a]!) d i2 j=j2 at g2 ⊢
  by_cases h:i2 > j2
  ·rw [if_pos (decide_eq_true (by omega)),if_pos h]
  ·rw [if_neg (by simp; omega),if_neg h]
   obtain⟨y,hy⟩:=Zeb (i:=i2) (x:=d[j2]!) hd (show j2<n by omega)
   simp only [Zx hd (show j2<n by omega),Zx hd (show i2<n by omega),Option.bind_some,Int.toNat_natCast,hy,Zeh]
   obtain⟨j',rfl⟩:∃ j',j2=j' + 1:=⟨j2 - 1,by omega⟩
   rw [wsuc (by omega),wpred (by omega)]
   exact ih (i2 + 1) j' m _ (by rw [swp_sz,hd]) (by omega) (by omega) (by omega) (by omega) (by omega)
theorem pa1_eq {n a b p:Nat} (hB:n≤sB) {d:Array Int} (hd:d.size=n) (hb:b≤n) (hab:a<b) (i:Nat) (hi:i≤b - 1 + 2) :
  Za8 n d.toList (a:Int) (b:Int) (p:Int) d[p]! d[a]! fuel (i:Int)=some ((Sort.scanUp (fun x=>Sort.ltInt x (Sort.swp d a p)[a]!) (Sort.swp d a p) (b - 1) i:Nat):Int):=by
 refine up_eq hB (d:=Sort.swp d a p) (fun x=>Sort.ltInt x (Sort.swp d a p)[a]!) (show b - 1<n by omega) (show a<n by omega) (fun m i hi=>?_) b i fuel (by omega) (by unfold sB at hB; unfold fuel; omega) hi
 unfold sB at hB hi
 have hd':(Sort.swp d a p).size=n:=by rw [swp_sz,hd]
 have e1:IntKind.wrap .i64 ((b:Int) - 1)=((b - 1:Nat):Int):=by rw [wi64 (by omega) (by omega)]; omega
 rw [Za8,e1]
 simp only [Int.toNat_natCast,Zeh]
 by_cases h:i≤b - 1
 ·rw [decide_eq_true (show (i:Int)≤((b - 1:Nat):Int) by omega)]
  simp only [Option.bind_some,if_true,Zx hd' (show a<n by omega),Zx hd' (show i<n by omega),Zez,wsuc (show i + 1<1000000000000 by omega),h,true_and]
 ·rw [decide_eq_false (show ¬ (i:Int)≤((b - 1:Nat):Int) by omega)]
  simp [h]
theorem pa2_eq {n a p i:Nat} (hB:n≤sB) {d:Array Int} (hd:d.size=n) (ha:a<n) (hi:0<i) (j:Nat) (hj:j<n) :
  Za9 n d.toList (a:Int) (p:Int) d[p]! d[a]! (i:Int) fuel (j:Int)=some ((Sort.scanDown (fun x=>!Sort.ltInt x (Sort.swp d a p)[a]!) (Sort.swp d a p) i j:Nat):Int):=by
 refine Zsz hi (n:=n) (d:=Sort.swp d a p) (fun x=>!Sort.ltInt x (Sort.swp d a p)[a]!) (fun m j hj=>?_) j fuel (by unfold sB at hB; unfold fuel; omega) hj
 unfold sB at hB
 have hd':(Sort.swp d a p).size=n:=by rw [swp_sz,hd]
 rw [Za9]
 simp only [Int.toNat_natCast,Zeh]
 by_cases h:i≤j
 ·rw [decide_eq_true (show (i:Int)≤(j:Int) by omega)]
  simp only [Option.bind_some,if_true,Zx hd' ha,Zx hd' hj,Zez,wi64 (show -9223372036854775808≤(j:Int) - 1 by omega) (show (j:Int) - 1<9223372036854775808 by omega),h,true_and]
 ·rw [decide_eq_false (show ¬ (i:Int)≤(j:Int) by omega)]
  simp [h]
theorem Zwn {n a:Nat}:∀(k i j:Nat) (d:Array Int),d.size=n→j + 1 - i≤k→(Sort.partLoop Sort.ltInt a i j d).2.size=n:=by
 intro k
 induction k with
 | zero=>
  intro i j d hd hk
  have h1:Sort.scanUp (fun x=>Sort.ltInt x d[a]!) d j i=i:=by rw [Sort.scanUp,if_neg (by simp; omega)]
  have h2:Sort.scanDown (fun x=>!Sort.ltInt x d[a]!) d i j≤j:=Sort.scanDown_le _ _ _ _
  rw [Sort.partLoop_eq,h1,if_pos (by omega)]; exact hd
 | succ k ih=>
  intro i j d hd hk
  rw [Sort.partLoop_eq]
  have g1:=Sort.scanUp_ge (fun x=>Sort.ltInt x d[a]!) d j i
  have g2:=Sort.scanDown_le (fun x=>!Sort.ltInt x d[a]!) d (Sort.scanUp (fun x=>Sort.ltInt x d[a]!) d j i) j
  split
  ·exact hd
  ·exact ih _ _ _ (by rw [swp_sz,hd]) (by omega)
theorem Zwo {a:Nat}:∀(k i j:Nat) (d:Array Int),j + 1 - i≤k→(Sort.partLoop Sort.ltInt a i j d).1≤j:=by
 intro k
 induction k with
 | zero=>
  intro i j d hk
  have h1:Sort.scanUp (fun x=>Sort.ltInt x d[a]!) d j i=i:=by rw [Sort.scanUp,if_neg (by simp; omega)]
  have h2:Sort.scanDown (fun x=>!Sort.ltInt x d[a]!) d i j≤j:=Sort.scanDown_le _ _ _ _
  rw [Sort.partLoop_eq,h1,if_pos (by omega)]; exact h2
 | succ k ih=>
  intro i j d hk
  rw [Sort.partLoop_eq]
  have g1:=Sort.scanUp_ge (fun x=>Sort.ltInt x d[a]!) d j i
  have g2:=Sort.scanDown_le (fun x=>!Sort.ltInt x d[a]!) d (Sort.scanUp (fun x=>Sort.ltInt x d[a]!) d j i) j
  split
  ·exact g2
  ·exact Nat.le_trans (ih _ _ _ (by omega)) (by omega)
theorem Zvm {n a b p:Nat} (hB:n≤sB) (hb:b≤n) (hp0:a≤p) (hp:p<b) {d:Array Int} (hd:d.size=n) :
  Zbz n d.toList (a:Int) (b:Int) (p:Int)=some (((Sort.partition Sort.ltInt d a b p).1:Int),(Sort.partition Sort.ltInt d a b p).2.1,(Sort.partition Sort.ltInt d a b p).2.2.toList):=by
 have hB':=hB
 unfold sB at hB
 have hd':(Sort.swp d a p).size=n:=by rw [swp_sz,hd]
 unfold Zbz Sort.partition
 obtain⟨y,hy⟩:=Zeb (i:=a) (x:=d[p]!) hd (show p<n by omega)
 have e1:IntKind.wrap .i64 ((b:Int) - 1)=((b - 1:Nat):Int):=by rw [wi64 (by omega) (by omega)]; omega
 simp only [Zx hd (show p<n by omega),Zx hd (show a<n by omega),Option.bind_some,Int.toNat_natCast,hy,Zeh]
 rw [wsuc (by omega),pa1_eq hB' hd hb (by omega) (a + 1) (by omega),e1]
 simp only [Option.bind_some]
 have g1:=Sort.scanUp_ge (fun x=>Sort.ltInt x (Sort.swp d a p)[a]!) (Sort.swp d a p) (b - 1) (a + 1)
 generalize Sort.scanUp (fun x=>Sort.ltInt x (Sort.swp d a p)[a]!) (Sort.swp d a p) (b - 1) (a + 1)=i at g1 ⊢
 rw [pa2_eq hB' hd (by omega) (by omega) (b - 1) (by omega)]
 simp only [Option.bind_some]
 have g2:=Sort.scanDown_le (fun x=>!Sort.ltInt x (Sort.swp d a p)[a]!) (Sort.swp d a p) i (b - 1)
 generalize Sort.scanDown (fun x=>!Sort.ltInt x (Sort.swp d a p)[a]!) (Sort.swp d a p) i (b - 1)=j at g2 ⊢
 by_cases h:i > j
 ·rw [if_pos (decide_eq_true (by omega)),if_pos h]
  obtain⟨y,hy⟩:=Zeb (i:=j) (x:=(Sort.swp d a p)[a]!) hd' (show a<n by omega)
  simp only [Zx hd' (show j<n by omega),Zx hd' (show a<n by omega),Option.bind_some,Int.toNat_natCast,hy,Zeh]
 ·rw [if_neg (by simp; omega),if_neg h]
  obtain⟨y,hy⟩:=Zeb (i:=i) (x:=(Sort.swp d a p)[j]!) hd' (show j<n by omega)
  simp only [Zx hd' (show j<n by omega),Zx hd' (show i<n by omega),Option.bind_some,Int.toNat_natCast,hy,Zeh]
  obtain⟨j',rfl⟩:∃ j',j=j' + 1:=⟨j - 1,by omega⟩
  have hd2:(Sort.swp (Sort.swp d a p) i (j' + 1)).size=n:=by rw [swp_sz,hd']
  rw [wsuc (by omega),wpred (by omega),pa3_eq hB' (by omega) (j' + 1 - (i + 1)) (i + 1) j' fuel _ hd2 (Nat.le_refl _) (by unfold fuel; omega) (by omega) (by omega) (by omega)]
  simp only [Option.bind_some,Nat.add_sub_cancel]
  have hz:=Zwn (a:=a) (j' + 1 - (i + 1)) (i + 1) j' _ hd2 (Nat.le_refl _)
  have hl:=Zwo (a:=a) (j' + 1 - (i + 1)) (i + 1) j' (Sort.swp (Sort.swp d a p) i (j' + 1)) (Nat.le_refl _)
  generalize Sort.partLoop Sort.ltInt a (i + 1) j' (Sort.swp (Sort.swp d a p) i (j' + 1))=r at hz hl ⊢
  obtain⟨r1,r2⟩:=r
  simp only at hz hl ⊢
  obtain⟨y,hy⟩:=Zeb (i:=r1) (x:=r2[a]!) hz (show a<n by omega)
  simp only [Zx hz (show r1<n by omega),Zx hz (show a<n by omega),Option.bind_some,Int.toNat_natCast,hy,Zeh]
end Go.AM
set_option maxRecDepth 100000
namespace Go.AM
open Go
theorem Zuk {n b:Nat} (hB:n≤sB) (hb:b≤n) {d:Array Int} (hd:d.size=n):∀(k i m:Nat),b - i≤k→k<m→0<i→i≤n + 1 →
  Z7 n (b:Int) d.toList m (i:Int)=some ((Sort.scanSorted Sort.ltInt d b i:Nat):Int):=by
 have hB':=hB
 unfold sB at hB
 intro k
 induction k with
 | zero=>
  intro i m hk hm h0 hi
  cases m with
  | zero=>omega
  | succ m=>
  rw [Z7,Sort.scanSorted,decide_eq_false (by omega),if_neg (show ¬ (decide (i<b) && !Sort.ltInt d[i]! d[i - 1]!)=true by simp; omega)]
  simp
 | succ k ih=>
  intro i m hk hm h0 hi
  cases m with
  | zero=>omega
  | succ m=>
  rw [Z7,Sort.scanSorted]
  by_cases h:i<b
  ·obtain⟨i',rfl⟩:∃ i',i=i' + 1:=⟨i - 1,by omega⟩
   rw [decide_eq_true (show ((i' + 1:Nat):Int)<(b:Int) by omega),decide_eq_true h]
   simp only [Option.bind_some,if_true,wpred (show i' + 1<1000000000000 by omega),Zx hd (show i' + 1<n by omega),Zx hd (show i'<n by omega),Zez,Nat.add_sub_cancel,Bool.true_and]
   cases hl:Sort.ltInt d[i' + 1]! d[i']! with
   | true=>simp
   | false=>
    simp only [Bool.not_false,if_true,wsuc (show i' + 1 + 1<1000000000000 by omega)]
    exact ih (i' + 1 + 1) m (by omega) (by omega) (by omega) (by omega)
  ·rw [decide_eq_false (show ¬ (i:Int)<(b:Int) by omega),decide_eq_false h]
   simp
theorem Zs0 {d:Array Int} {b:Nat}:∀(k i:Nat),b - i≤k→i≤Sort.scanSorted Sort.ltInt d b i∧(i≤b→Sort.scanSorted Sort.ltInt d b i≤b):=by
 intro k
 induction k with
 | zero=>intro i hk; rw [Sort.scanSorted,if_neg (by simp; omega)]; omega
 | succ k ih=>
  intro i hk
  rw [Sort.scanSorted]
  split
  ·rename_i h
   simp only [Bool.and_eq_true,decide_eq_true_eq] at h
   have:=ih (i + 1) (by omega)
   omega
  ·omega
theorem Zn5 {n:Nat} (hB:n≤sB):∀(j m:Nat) (d:Array Int),d.size=n→j<n→j<m →
  Zy n m d.toList (j:Int)=some (Sort.shiftDown Sort.ltInt j d).toList
 | 0,m + 1,d,hd,hj,hm=>by
  rw [Zy,if_neg (by simp)]; rfl
 | j + 1,m + 1,d,hd,hj,hm=>by
  have ih:=Zn5 hB j m
  unfold sB at hB
  obtain⟨y,hy⟩:=Zeb (i:=j + 1) (x:=d[j]!) hd (show j<n by omega)
  rw [Zy,Sort.shiftDown,if_pos (decide_eq_true (by omega))]
  simp only [wpred (show j + 1<1000000000000 by omega),Zx hd hj,Zx hd (show j<n by omega),Option.bind_some,Zez,Int.toNat_natCast,hy,Zeh]
  cases hl:Sort.ltInt d[j + 1]! d[j]! with
  | false=>rfl
  | true=>
   simp only [Bool.not_true,Bool.false_eq_true,if_false]
   exact ih _ (by rw [swp_sz,hd]) (by omega) (by omega)
theorem Zjh {n:Nat}:∀(j:Nat) (d:Array Int),d.size=n→(Sort.shiftDown Sort.ltInt j d).size=n
 | 0,_,hd=>hd
 | j + 1,d,hd=>by
  rw [Sort.shiftDown]
  split
  ·exact hd
  ·exact Zjh j _ (by rw [swp_sz,hd])
theorem Zx3 {n b:Nat} (hB:n≤sB) (hb:b≤n):∀(k j m:Nat) (d:Array Int),d.size=n→b - j≤k→k<m→0<j→j≤n + 1 →
  Z8 n (b:Int) m d.toList (j:Int)=some (Sort.shiftUp Sort.ltInt b j d).toList:=by
 have hB':=hB
 unfold sB at hB
 intro k
 induction k with
 | zero=>
  intro j m d hd hk hm h0 hj
  cases m with
  | zero=>omega
  | succ m=>rw [Z8,Sort.shiftUp,if_neg (by simp; omega),if_neg (by omega)]
 | succ k ih=>
  intro j m d hd hk hm h0 hj
  cases m with
  | zero=>omega
  | succ m=>
  rw [Z8,Sort.shiftUp]
  by_cases h:j<b
  ·rw [if_pos (decide_eq_true (by omega)),if_pos h]
   obtain⟨j',rfl⟩:∃ j',j=j' + 1:=⟨j - 1,by omega⟩
   obtain⟨y,hy⟩:=Zeb (i:=j' + 1) (x:=d[j']!) hd (show j'<n by omega)
   simp only [wpred (show j' + 1<1000000000000 by omega),Zx hd (show j' + 1<n by omega),Zx hd (show j'<n by omega),Option.bind_some,Zez,Int.toNat_natCast,hy,Zeh,Nat.add_sub_cancel]
   cases hl:Sort.ltInt d[j' + 1]! d[j']! with
   | false=>rfl
   | true=>
    simp only [Bool.not_true,Bool.false_eq_true,if_false,wsuc (show j' + 1 + 1<1000000000000 by omega)]
    exact ih (j' + 1 + 1) m _ (by rw [swp_sz,hd]) (by omega) (by omega) (by omega) (by omega)
  ·rw [if_neg (by simp; omega),if_neg h]
theorem Zr6 {n b:Nat}:∀(k j:Nat) (d:Array Int),d.size=n→b - j≤k→(Sort.shiftUp Sort.ltInt b j d).size=n:=by
 intro k
 induction k with
 | zero=>intro j d hd hk; rw [Sort.shiftUp,if_neg (by omega)]; exact hd
 | succ k ih=>
  intro j d hd hk
  rw [Sort.shiftUp]
  split
  ·split
   ·exact hd
   ·exact ih _ _ (by rw [swp_sz,hd]) (by omega)
  ·exact hd
def outP (r:Array Int × Bool) (o:List Int ⊕ (Bool × List Int)):Prop:=(o=.inl r.1.toList∧r.2=false)∨o=.inr (r.2,r.1.toList)
theorem Zm5 {n a b:Nat} (hB:n≤sB) (hb:b≤n) (hab:a<b):∀(s c i m:Nat) (d:Array Int),d.size=n→c + s=5→s<m→a<i→i≤b →
  Ok (Z9 n (a:Int) (b:Int) m d.toList (i:Int) (c:Int)) (outP (Sort.partialIns Sort.ltInt a b s i d))
 | 0,c,i,m + 1,d,hd,hc,hm,hai,hi=>by
  rw [Z9,if_neg (by simp; omega)]
  exact⟨_,rfl,Or.inl ⟨rfl,rfl⟩⟩
 | s + 1,c,i,m + 1,d,hd,hc,hm,hai,hi=>by
  have ih:=Zm5 hB hb hab s (c + 1)
  have hB':=hB
  unfold sB at hB
  rw [Z9,if_pos (decide_eq_true (by omega)),Zuk hB' hb hd (b - i) i fuel (Nat.le_refl _) (by unfold fuel; omega) (by omega) (by omega),Sort.partialIns]
  obtain⟨g1,g2⟩:=Zs0 (d:=d) (b - i) i (Nat.le_refl _)
  have g2:=g2 hi
  generalize Sort.scanSorted Sort.ltInt d b i=j at g1 g2 ⊢
  simp only [Option.bind_some]
  by_cases h1:j=b
  ·rw [if_pos (by simp [h1]),if_pos h1]
   exact⟨_,rfl,Or.inr rfl⟩
  ·rw [if_neg (by simp; omega),if_neg h1,wsub (by omega) (by omega)]
   by_cases h2:b - a<50
   ·rw [if_pos (decide_eq_true (by omega)),if_pos h2]
    exact⟨_,rfl,Or.inr rfl⟩
   ·rw [if_neg (by simp; omega),if_neg h2]
    obtain⟨j',rfl⟩:∃ j',j=j' + 1:=⟨j - 1,by omega⟩
    obtain⟨y,hy⟩:=Zeb (i:=j' + 1) (x:=d[j']!) hd (show j'<n by omega)
    simp only [wpred (show j' + 1<1000000000000 by omega),Zx hd (show j' + 1<n by omega),Zx hd (show j'<n by omega),Option.bind_some,Int.toNat_natCast,hy,Zeh,Nat.add_sub_cancel]
    rw [wsub (i:=j' + 1) (j:=a) (by omega) (by omega),wsub (i:=b) (j:=j' + 1) (by omega) (by omega)]
    have hd2:(Sort.swp d (j' + 1) j').size=n:=by rw [swp_sz,hd]
    generalize Sort.swp d (j' + 1) j'=d2 at hd2 ⊢
    have e3:(if (decide (((j' + 1 - a:Nat):Int) ≥ 2))=true then (Zy n fuel d2.toList (j':Int)).bind fun(v1191:(List Int))=>some v1191 else some d2.toList)=some (if j' + 1 - a ≥ 2 then Sort.shiftDown Sort.ltInt j' d2 else d2).toList:=by
     by_cases h3:j' + 1 - a ≥ 2
     ·rw [if_pos (decide_eq_true (by omega)),if_pos h3,Zn5 hB' j' fuel d2 hd2 (by omega) (by unfold fuel; omega)]; rfl
     ·rw [if_neg (by simp; omega),if_neg h3]
    rw [e3]
    have hd3:(if j' + 1 - a ≥ 2 then Sort.shiftDown Sort.ltInt j' d2 else d2).size=n:=by
     split
     ·exact Zjh _ _ hd2
     ·exact hd2
    generalize (if j' + 1 - a ≥ 2 then Sort.shiftDown Sort.ltInt j' d2 else d2)=d3 at hd3 ⊢
    simp only [Option.bind_some]
    rw [wsuc (j:=j' + 1) (by omega),wsuc (j:=c) (by omega)]
    by_cases h4:b - (j' + 1) ≥ 2
    ·rw [if_pos (decide_eq_true (by omega)),if_pos h4,Zx3 hB' hb (b - (j' + 1 + 1)) (j' + 1 + 1) fuel d3 hd3 (Nat.le_refl _) (by unfold fuel; omega) (by omega) (by omega)]
     simp only [Option.bind_some]
     exact ih (j' + 1) m _ (Zr6 _ _ _ hd3 (Nat.le_refl _)) (by omega) (by omega) (by omega) (by omega)
    ·rw [if_neg (by simp; omega),if_neg h4]
     simp only [Option.bind_some]
     exact ih (j' + 1) m _ hd3 (by omega) (by omega) (by omega) (by omega)
theorem Zk5 {n a b:Nat} (hB:n≤sB) (hb:b≤n) (hab:a<b) {d:Array Int} (hd:d.size=n) :
  Zap n d.toList (a:Int) (b:Int)=some ((Sort.partialInsertionSort Sort.ltInt d a b).2,(Sort.partialInsertionSort Sort.ltInt d a b).1.toList):=by
 unfold Zap Sort.partialInsertionSort
 have hB':=hB
 unfold sB at hB
 rw [wsuc (by omega)]
 obtain⟨o,e,ho⟩:=Zm5 hB' hb hab 5 0 (a + 1) fuel d hd rfl (by unfold fuel; omega) (by omega) (by omega)
 rw [show ((0:Nat):Int)=0 from rfl] at e
 rw [e]
 rcases ho with ⟨rfl,h⟩ | rfl
 ·simp only [Option.bind_some,h]
 ·rfl
theorem Zn6 {n a b s:Nat} {d:Array Int} (hd:d.size=n) (ha:a<n) (hb:b<n) (hs:s<1000):Zbf n d.toList (a:Int) (b:Int) (s:Int)=some (((Sort.order2 Sort.ltInt d a b s).1:Int),((Sort.order2 Sort.ltInt d a b s).2.1:Int),((Sort.order2 Sort.ltInt d a b s).2.2:Int)):=by
 unfold Zbf Sort.order2
 simp only [Zx hd ha,Zx hd hb,Option.bind_some,Zez,wsuc (show s + 1<1000000000000 by omega)]
 split <;> rfl
theorem Zji {n a b s:Nat} {d:Array Int} (ha:a<n) (hb:b<n):(Sort.order2 Sort.ltInt d a b s).1<n∧(Sort.order2 Sort.ltInt d a b s).2.1<n∧(Sort.order2 Sort.ltInt d a b s).2.2≤s + 1:=by
 unfold Sort.order2
 split
 ·exact⟨hb,ha,by simp⟩
 ·exact⟨ha,hb,by simp⟩
theorem Zn7 {n a b c s:Nat} {d:Array Int} (hd:d.size=n) (ha:a<n) (hb:b<n) (hc:c<n) (hs:s<900):Zbs n d.toList (a:Int) (b:Int) (c:Int) (s:Int)=some (((Sort.median Sort.ltInt d a b c s).1:Int),((Sort.median Sort.ltInt d a b c s).2:Int)):=by
 unfold Zbs Sort.median
 obtain⟨g1,g2,g3⟩:=Zji (s:=s) (d:=d) ha hb
 rw [Zn6 hd ha hb (by omega)]
 simp only [Option.bind_some]
 obtain⟨h1,h2,h3⟩:=Zji (s:=(Sort.order2 Sort.ltInt d a b s).2.2) (d:=d) g2 hc
 rw [Zn6 hd g2 hc (by omega)]
 simp only [Option.bind_some]
 rw [Zn6 hd g1 h1 (by omega)]
 rfl
theorem Zx4 {n a b c s:Nat} {d:Array Int} (ha:a<n) (hb:b<n) (hc:c<n):(Sort.median Sort.ltInt d a b c s).1<n∧(Sort.median Sort.ltInt d a b c s).2≤s + 3:=by
 unfold Sort.median
 obtain⟨g1,g2,g3⟩:=Zji (s:=s) (d:=d) ha hb
 obtain⟨h1,h2,h3⟩:=Zji (s:=(Sort.order2 Sort.ltInt d a b s).2.2) (d:=d) g2 hc
 obtain⟨k1,k2,k3⟩:=Zji (s:=(Sort.order2 Sort.ltInt d (Sort.order2 Sort.ltInt d a b s).2.1 c (Sort.order2 Sort.ltInt d a b s).2.2).2.2) (d:=d) g1 h1
 exact⟨k2,Nat.le_trans k3 (by omega)⟩
theorem Zie {n a s:Nat} (hB:n≤sB) {d:Array Int} (hd:d.size=n) (h0:0<a) (ha:a + 1<n) (hs:s<900):Zar n d.toList (a:Int) (s:Int)=some (((Sort.medianAdjacent Sort.ltInt d a s).1:Int),((Sort.medianAdjacent Sort.ltInt d a s).2:Int)):=by
 unfold sB at hB
 unfold Zar Sort.medianAdjacent
 obtain⟨a',rfl⟩:∃ a',a=a' + 1:=⟨a - 1,by omega⟩
 rw [wpred (by omega),wsuc (by omega),Zn7 hd (by omega) (by omega) ha hs]
 rfl
theorem Zh1 {n a s:Nat} {d:Array Int} (ha:a + 1<n):(Sort.medianAdjacent Sort.ltInt d a s).1<n∧(Sort.medianAdjacent Sort.ltInt d a s).2≤s + 3:=by
 unfold Sort.medianAdjacent
 exact Zx4 (by omega) (by omega) ha
def hintN:Sort.Hint→Int
 | .unknown=>0
 | .increasing=>1
 | .decreasing=>2
theorem Zs1 {n a b:Nat} (hB:n≤sB) (hab:a<b) (hb:b≤n) {d:Array Int} (hd:d.size=n) :
  Zbr n d.toList (a:Int) (b:Int)=some (((Sort.choosePivot Sort.ltInt d a b).1:Int),hintN (Sort.choosePivot Sort.ltInt d a b).2):=by
 have hB':=hB
 unfold sB at hB
 unfold Zbr
 have ew:IntKind.wrap .i64 ((b:Int) - (a:Int))=((b - a:Nat):Int):=wsub (by omega) (by omega)
 have eq4:IntKind.wrap .i64 (Int.tdiv ((b - a:Nat):Int) (4:Int))=(((b - a) / 4:Nat):Int):=by
  rw [Int.tdiv_eq_ediv_of_nonneg (by omega),wi64 (by omega) (by omega)]; omega
 have ep:∀ k:Nat,k≤3→IntKind.wrap .i64 ((a:Int) + IntKind.wrap .i64 ((((b - a) / 4:Nat):Int) * (k:Int)))=((a + (b - a) / 4 * k:Nat):Int):=fun k hk=>by
  have h1:(b - a) / 4 * k≤(b - a) / 4 * 3:=Nat.mul_le_mul_left _ hk
  have e2:(((b - a) / 4:Nat):Int) * (k:Int)=(((b - a) / 4 * k:Nat):Int):=by push_cast; rfl
  rw [e2,wi64 (x:=(((b - a) / 4 * k:Nat):Int)) (by omega) (by omega),wadd (by omega)]
 have e1:=ep 1 (by omega)
 have e2:=ep 2 (by omega)
 have e3:=ep 3 (by omega)
 rw [show ((1:Nat):Int)=1 from rfl] at e1
 rw [show ((2:Nat):Int)=2 from rfl] at e2
 rw [show ((3:Nat):Int)=3 from rfl] at e3
 rw [ew,eq4,e1,e2,e3]
 have fin:∀(r:Nat × Nat),(match ((r.2:Int),(r.1:Int)) with
   | (v24,v25)=>if (v24 == (0:Int))=true then some (v25,(1:Int)) else if (v24 == (12:Int))=true then some (v25,(2:Int)) else some (v25,(0:Int))) =
   some ((r.1:Int),hintN (if r.2=0 then .increasing else if r.2=12 then .decreasing else .unknown)):=fun r=>by
  simp only [beq_iff_eq]
  by_cases h0:r.2=0
  ·rw [if_pos (by omega),if_pos h0]; rfl
  ·rw [if_neg (by omega),if_neg h0]
   by_cases h1:r.2=12
   ·rw [if_pos (by omega),if_pos h1]; rfl
   ·rw [if_neg (by omega),if_neg h1]; rfl
 unfold Sort.choosePivot
 simp only
 by_cases h8:b - a ≥ 8
 ·rw [if_pos (decide_eq_true (show ((b - a:Nat):Int) ≥ 8 by omega)),if_pos h8]
  by_cases h50:b - a ≥ 50
  ·rw [if_pos (decide_eq_true (show ((b - a:Nat):Int) ≥ 50 by omega)),if_pos h50]
   have l1:a + (b - a) / 4 * 3 + 1<n:=by omega
   rw [show (0:Int)=((0:Nat):Int) from rfl]
   rw [Zie hB' hd (by omega) (by omega) (by omega)]
   obtain⟨p1,p2⟩:=Zh1 (n:=n) (a:=a + (b - a) / 4 * 1) (s:=0) (d:=d) (by omega)
   simp only [Option.bind_some]
   rw [Zie hB' hd (by omega) (by omega) (by omega)]
   obtain⟨q1,q2⟩:=Zh1 (n:=n) (a:=a + (b - a) / 4 * 2) (s:=(Sort.medianAdjacent Sort.ltInt d (a + (b - a) / 4 * 1) 0).2) (d:=d) (by omega)
   simp only [Option.bind_some]
   rw [Zie hB' hd (by omega) (by omega) (by omega)]
   obtain⟨s1,s2⟩:=Zh1 (n:=n) (a:=a + (b - a) / 4 * 3) (s:=(Sort.medianAdjacent Sort.ltInt d (a + (b - a) / 4 * 2) (Sort.medianAdjacent Sort.ltInt d (a + (b - a) / 4 * 1) 0).2).2) (d:=d) (by omega)
   simp only [Option.bind_some]
   rw [Zn7 hd p1 q1 s1 (by omega)]
   simp only [Option.bind_some]
   exact fin _
  ·rw [if_neg (by simp; omega),if_neg h50]
   rw [show (0:Int)=((0:Nat):Int) from rfl]
   simp only [Option.bind_some]
   rw [Zn7 hd (by omega) (by omega) (by omega) (by omega)]
   simp only [Option.bind_some]
   exact fin _
 ·rw [if_neg (by simp; omega),if_neg h8]
  simp only [Option.bind_some]
  exact fin (a + (b - a) / 4 * 2,0)
end Go.AM
set_option maxRecDepth 100000
namespace Go.AM
open Go
theorem Zl2 {x:Nat} (h:256≤x):Sort.bitsLen x=Sort.bitsLen (x / 256) + 8:=by
 have h1:∀ m,Sort.bitsLen x≤m + 8 ↔ Sort.bitsLen (x / 256)≤m:=fun m=>by
  rw [Sort.bitsLen_le_iff,Sort.bitsLen_le_iff,Nat.pow_add]
  have:0<2 ^ m:=Nat.pow_pos (by omega)
  omega
 have h2:=(h1 (Sort.bitsLen (x / 256))).2 (Nat.le_refl _)
 have h3:¬ Sort.bitsLen x≤8:=by rw [Sort.bitsLen_le_iff]; omega
 have h4:=(h1 (Sort.bitsLen x - 8)).1 (by omega)
 omega
theorem Zmt (x k:Nat) (hk:k≤64):bShr .u64 (x:Int) (k:Int)=((x / 2 ^ k:Nat):Int):=by
 unfold bShr
 rw [Int.toNat_natCast,show min k (IntKind.bits .u64)=k from Nat.min_eq_left hk,Int.fdiv_eq_ediv_of_nonneg _ (by exact Int.le_of_lt (by exact Int.pow_pos (by decide)))]
 push_cast; rfl
def len8:ByteArray:=⟨#[0,1,2,2,3,3,3,3,4,4,4,4,4,4,4,4,5,5,5,5,5,5,5,5,5,5,5,5,5,5,5,5,6,6,6,6,6,6,6,6,6,6,6,6,6,6,6,6,6,6,6,6,6,6,6,6,6,6,6,6,6,6,6,6,7,7,7,7,7,7,7,7,7,7,7,7,7,7,7,7,7,7,7,7,7,7,7,7,7,7,7,7,7,7,7,7,7,7,7,7,7,7,7,7,7,7,7,7,7,7,7,7,7,7,7,7,7,7,7,7,7,7,7,7,7,7,7,7,8,8,8,8,8,8,8,8,8,8,8,8,8,8,8,8,8,8,8,8,8,8,8,8,8,8,8,8,8,8,8,8,8,8,8,8,8,8,8,8,8,8,8,8,8,8,8,8,8,8,8,8,8,8,8,8,8,8,8,8,8,8,8,8,8,8,8,8,8,8,8,8,8,8,8,8,8,8,8,8,8,8,8,8,8,8,8,8,8,8,8,8,8,8,8,8,8,8,8,8,8,8,8,8,8,8,8,8,8,8,8,8,8,8,8,8,8,8,8,8,8,8,8,8,8,8,8,8]⟩
theorem Zzq:(List.range 256).map (fun i=>len8.data[i]?.map (·.toNat))=(List.range 256).map (fun i=>some (Sort.bitsLen i)):=by kernel_rfl
theorem Zs2 {i:Nat} (h:i<256):sidx ⟨#[0,1,2,2,3,3,3,3,4,4,4,4,4,4,4,4,5,5,5,5,5,5,5,5,5,5,5,5,5,5,5,5,6,6,6,6,6,6,6,6,6,6,6,6,6,6,6,6,6,6,6,6,6,6,6,6,6,6,6,6,6,6,6,6,7,7,7,7,7,7,7,7,7,7,7,7,7,7,7,7,7,7,7,7,7,7,7,7,7,7,7,7,7,7,7,7,7,7,7,7,7,7,7,7,7,7,7,7,7,7,7,7,7,7,7,7,7,7,7,7,7,7,7,7,7,7,7,7,8,8,8,8,8,8,8,8,8,8,8,8,8,8,8,8,8,8,8,8,8,8,8,8,8,8,8,8,8,8,8,8,8,8,8,8,8,8,8,8,8,8,8,8,8,8,8,8,8,8,8,8,8,8,8,8,8,8,8,8,8,8,8,8,8,8,8,8,8,8,8,8,8,8,8,8,8,8,8,8,8,8,8,8,8,8,8,8,8,8,8,8,8,8,8,8,8,8,8,8,8,8,8,8,8,8,8,8,8,8,8,8,8,8,8,8,8,8,8,8,8,8,8,8,8,8,8,8]⟩ (i:Int)=some ((Sort.bitsLen i:Nat):Int):=by
 have h1:len8.data[i]?.map (·.toNat)=some (Sort.bitsLen i):=List.map_inj_left.1 Zzq i (List.mem_range.2 h)
 have hs:len8.size=256:=by kernel_rfl
 have h2:i<len8.data.size:=by show i<len8.size; omega
 rw [Array.getElem?_eq_getElem h2] at h1
 simp only [Option.map_some,Option.some.injEq] at h1
 show sidx len8 (i:Int)=_
 unfold sidx
 rw [dif_pos ⟨by omega,by omega⟩,← h1]
 rfl
theorem Len_eq {x:Nat} (h:x<16777216):Zfh (x:Int)=some ((Sort.bitsLen x:Nat):Int):=by
 have w8:∀ y:Nat,y<256→IntKind.wrap .u8 (y:Int)=(y:Int):=fun y hy=>by rw [wrap_u .u8 8 rfl rfl]; omega
 have hb:∀ y:Nat,y<256→Sort.bitsLen y≤8:=fun y hy=>(Sort.bitsLen_le_iff y 8).2 (by omega)
 unfold Zfh Zgx
 rw [if_neg (by simp; omega)]
 simp only [Option.bind_some]
 have e16:bShr .u64 (x:Int) (16:Int)=((x / 65536:Nat):Int):=Zmt x 16 (by omega)
 have e8:bShr .u64 (x:Int) (8:Int)=((x / 256:Nat):Int):=Zmt x 8 (by omega)
 by_cases h1:x<65536
 ·rw [if_neg (show ¬ (decide ((x:Int) ≥ 65536))=true by simp; omega)]
  simp only [Option.bind_some]
  by_cases h2:x<256
  ·rw [if_neg (show ¬ (decide ((x:Int) ≥ 256))=true by simp; omega)]
   simp only [Option.bind_some]
   rw [w8 x h2,Zs2 h2]
   have:=hb x h2
   simp only [Option.bind_some]
   rw [wi64 (x:=((Sort.bitsLen x:Nat):Int)) (by omega) (by omega),wi64 (by omega) (by omega),Int.zero_add]
  ·rw [if_pos (decide_eq_true (show (x:Int) ≥ 256 by omega)),e8]
   simp only [Option.bind_some]
   have h3:x / 256<256:=by omega
   rw [w8 _ h3,Zs2 h3,Zl2 (show 256≤x by omega)]
   have:=hb _ h3
   simp only [Option.bind_some]
   rw [wi64 (x:=((Sort.bitsLen (x / 256):Nat):Int)) (by omega) (by omega),wi64 (x:=(0:Int) + 8) (by omega) (by omega),wi64 (by omega) (by omega)]
   congr 1; omega
 ·rw [if_pos (decide_eq_true (show (x:Int) ≥ 65536 by omega)),e16]
  simp only [Option.bind_some]
  have h3:x / 65536<256:=by omega
  rw [if_neg (show ¬ (decide (((x / 65536:Nat):Int) ≥ 256))=true by simp; omega)]
  simp only [Option.bind_some]
  rw [w8 _ h3,Zs2 h3,Zl2 (show 256≤x by omega),Zl2 (show 256≤x / 256 by omega),Nat.div_div_eq_div_mul]
  have:=hb _ h3
  simp only [Option.bind_some]
  rw [wi64 (x:=((Sort.bitsLen (x / 65536):Nat):Int)) (by omega) (by omega),wi64 (x:=(0:Int) + 16) (by omega) (by omega),wi64 (by omega) (by omega)]
  congr 1
  show _=((Sort.bitsLen (x / 65536) + 8 + 8:Nat):Int)
  omega
theorem Zqo {x y:Nat} (hx:x<2 ^ 64) (hy:y<2 ^ 64):bXor .u64 (x:Int) (y:Int)=((x ^^^ y:Nat):Int):=by
 have h:=Nat.xor_lt_two_pow hx hy
 unfold bXor
 have e:(BitVec.ofInt (IntKind.bits .u64) (x:Int) ^^^ BitVec.ofInt (IntKind.bits .u64) (y:Int)).toNat=x ^^^ y:=by
  rw [BitVec.ofInt_natCast,BitVec.ofInt_natCast]
  show (BitVec.ofNat 64 x ^^^ BitVec.ofNat 64 y).toNat=_
  rw [BitVec.toNat_xor,BitVec.toNat_ofNat,BitVec.toNat_ofNat,Nat.mod_eq_of_lt hx,Nat.mod_eq_of_lt hy]
 rw [e,wu64 (by omega) (by omega)]
theorem Zvn {x y:Nat} (hx:x<2 ^ 64) (hy:y<2 ^ 64):bAnd .u64 (x:Int) (y:Int)=((x &&& y:Nat):Int):=by
 have h:x &&& y<2 ^ 64:=Nat.and_lt_two_pow x hy
 unfold bAnd
 have e:(BitVec.ofInt (IntKind.bits .u64) (x:Int) &&& BitVec.ofInt (IntKind.bits .u64) (y:Int)).toNat=x &&& y:=by
  rw [BitVec.ofInt_natCast,BitVec.ofInt_natCast]
  show (BitVec.ofNat 64 x &&& BitVec.ofNat 64 y).toNat=_
  rw [BitVec.toNat_and,BitVec.toNat_ofNat,BitVec.toNat_ofNat,Nat.mod_eq_of_lt hx,Nat.mod_eq_of_lt hy]
 rw [e,wu64 (by omega) (by omega)]
theorem Zvo (x k:Nat) (hk:k≤64):bShl .u64 (x:Int) (k:Int)=((x * 2 ^ k % 2 ^ 64:Nat):Int):=by
 unfold bShl
 rw [Int.toNat_natCast,show min k (IntKind.bits .u64)=k from Nat.min_eq_left hk,wrap_u .u64 64 rfl rfl]
 rw [Int.natCast_emod,Int.natCast_mul,Int.natCast_pow,Int.natCast_pow]; rfl
theorem Zyq {x:Nat} (hx:x<2 ^ 64):Zd5 (x:Int)=some (((Sort.xorNextN x:Nat):Int),((Sort.xorNextN x:Nat):Int)):=by
 unfold Zd5
 have a1:bShl .u64 (x:Int) (13:Int)=((x * 8192 % 18446744073709551616:Nat):Int):=Zvo x 13 (by omega)
 have l1:x * 8192 % 18446744073709551616<2 ^ 64:=by omega
 rw [a1,Zqo hx l1]
 obtain⟨a,ha⟩:∃ a,a=x ^^^ (x * 8192 % 18446744073709551616):=⟨_,rfl⟩
 have l2:a<2 ^ 64:=by rw [ha]; exact Nat.xor_lt_two_pow hx l1
 rw [← ha]
 have a2:bShr .u64 (a:Int) (7:Int)=((a / 128:Nat):Int):=Zmt a 7 (by omega)
 have l3:a / 128<2 ^ 64:=by omega
 rw [a2,Zqo l2 l3]
 obtain⟨b,hb⟩:∃ b,b=a ^^^ (a / 128):=⟨_,rfl⟩
 have l4:b<2 ^ 64:=by rw [hb]; exact Nat.xor_lt_two_pow l2 l3
 rw [← hb]
 have a3:bShl .u64 (b:Int) (17:Int)=((b * 131072 % 18446744073709551616:Nat):Int):=Zvo b 17 (by omega)
 rw [a3,Zqo l4 (by omega)]
 have e:Sort.xorNextN x=b ^^^ (b * 131072 % 18446744073709551616):=by rw [hb,ha]; rfl
 rw [e]
theorem Zzr {a l m idx:Nat} {st:UInt64 × Array Int} {n:Nat} (h:st.2.size=n):(Sort.breakStep a l m st idx).2.size=n:=by
 unfold Sort.breakStep; simp only; rw [swp_sz,h]
theorem Zyr {n a b:Nat} (hB:n≤sB) (hb:b≤n) (h8:b - a ≥ 8) {m idx:Nat} {st:UInt64 × Array Int} (hd:st.2.size=n) (h1:a≤idx) (h2:idx<b) (hc:idx≤a + (b - a) / 4 * 2 + 1) :
  Zr n (a:Int) (b:Int) ((1 <<< Sort.bitsLen (b - a):Nat):Int) (m + 1) st.2.toList ((st.1.toNat:Nat):Int) (idx:Int) =
  Zr n (a:Int) (b:Int) ((1 <<< Sort.bitsLen (b - a):Nat):Int) m (Sort.breakStep a (b - a) (1 <<< Sort.bitsLen (b - a)) st idx).2.toList (((Sort.breakStep a (b - a) (1 <<< Sort.bitsLen (b - a)) st idx).1.toNat:Nat):Int) ((idx + 1:Nat):Int):=by
 have hB':=hB
 unfold sB at hB
 obtain⟨r,d⟩:=st
 simp only at hd ⊢
 have hp:2 ^ Sort.bitsLen (b - a)≤2 * (b - a):=Sort.two_pow_bitsLen_le (by omega)
 have hp0:0<2 ^ Sort.bitsLen (b - a):=Nat.pow_pos (by omega)
 rw [Zr]
 have ew:IntKind.wrap .i64 ((b:Int) - (a:Int))=((b - a:Nat):Int):=wsub (by omega) (by omega)
 have eq4:IntKind.wrap .i64 (Int.tdiv ((b - a:Nat):Int) (4:Int))=(((b - a) / 4:Nat):Int):=by
  rw [Int.tdiv_eq_ediv_of_nonneg (by omega),wi64 (by omega) (by omega)]; omega
 have e5:IntKind.wrap .i64 (IntKind.wrap .i64 ((a:Int) + IntKind.wrap .i64 ((((b - a) / 4:Nat):Int) * (2:Int))) + 1)=((a + (b - a) / 4 * 2 + 1:Nat):Int):=by
  rw [wi64 (x:=(((b - a) / 4:Nat):Int) * 2) (by omega) (by omega),wi64 (x:=(a:Int) + (((b - a) / 4:Nat):Int) * 2) (by omega) (by omega),wi64 (by omega) (by omega)]; omega
 rw [ew,eq4,e5,if_pos (decide_eq_true (by omega)),Zyq (UInt64.toNat_lt r)]
 simp only [Option.bind_some]
 have hx:=Sort.xorNext_toNat r
 have hxl:=Sort.xorNextN_lt r.toNat (UInt64.toNat_lt r)
 unfold Sort.breakStep
 simp only
 rw [hx]
 rw [Nat.shiftLeft_eq,Nat.one_mul] at *
 generalize Sort.xorNextN r.toNat=x at hxl ⊢
 have em:IntKind.wrap .u64 (((2 ^ Sort.bitsLen (b - a):Nat):Int) - 1)=((2 ^ Sort.bitsLen (b - a) - 1:Nat):Int):=by
  rw [wu64 (by omega) (by omega)]; omega
 rw [em,Zvn hxl (by omega)]
 have ha:x &&& (2 ^ Sort.bitsLen (b - a) - 1)≤2 ^ Sort.bitsLen (b - a) - 1:=Nat.and_le_right
 generalize x &&& (2 ^ Sort.bitsLen (b - a) - 1)=o at ha ⊢
 rw [wi64 (x:=(o:Int)) (by omega) (by omega)]
 have eo:(if (decide ((o:Int) ≥ ((b - a:Nat):Int)))=true then some (IntKind.wrap .i64 ((o:Int) - ((b - a:Nat):Int))) else some (o:Int))=some ((if o ≥ b - a then o - (b - a) else o:Nat):Int):=by
  by_cases h:o ≥ b - a
  ·rw [if_pos (decide_eq_true (by omega)),if_pos h,wsub (by omega) h]
  ·rw [if_neg (by simp; omega),if_neg h]
 rw [eo]
 have ho:(if o ≥ b - a then o - (b - a) else o)<b - a:=by split <;> omega
 generalize (if o ≥ b - a then o - (b - a) else o)=q at ho ⊢
 simp only [Option.bind_some]
 rw [wadd (by omega)]
 obtain⟨y,hy⟩:=Zeb (i:=idx) (x:=d[a + q]!) hd (show a + q<n by omega)
 simp only [Zx hd (show a + q<n by omega),Zx hd (show idx<n by omega),Option.bind_some,Int.toNat_natCast,hy,Zeh]
 rw [wsuc (by omega)]
theorem Zys {n a b:Nat} (hB:n≤sB) (hb:b≤n) (h8:b - a ≥ 8) {m idx:Nat} {st:UInt64 × Array Int} (hd:st.2.size=n) (hi:idx + 1=a + (b - a) / 4 * 2) (g:Nat→UInt64 × Array Int→UInt64 × Array Int) (hg:g=fun i s=>Sort.breakStep a (b - a) (1 <<< Sort.bitsLen (b - a)) s i) :
  ∃ z,Zr n (a:Int) (b:Int) ((1 <<< Sort.bitsLen (b - a):Nat):Int) (m + 1 + 1 + 1 + 1) st.2.toList ((st.1.toNat:Nat):Int) (idx:Int)=some ((g (idx + 2) (g (idx + 1) (g idx st))).2.toList,z):=by
 have hB':=hB
 unfold sB at hB
 have z:∀ i s,s.2.size=n→(g i s).2.size=n:=fun i s h=>by rw [hg]; exact Zzr h
 have st1:∀ m i s,s.2.size=n→a≤i→i<b→i≤a + (b - a) / 4 * 2 + 1→Zr n (a:Int) (b:Int) ((1 <<< Sort.bitsLen (b - a):Nat):Int) (m + 1) s.2.toList ((s.1.toNat:Nat):Int) (i:Int)=Zr n (a:Int) (b:Int) ((1 <<< Sort.bitsLen (b - a):Nat):Int) m (g i s).2.toList (((g i s).1.toNat:Nat):Int) ((i + 1:Nat):Int):=fun m i s h h1 h2 hc=>by
  rw [hg]; exact Zyr hB' hb h8 h h1 h2 hc
 rw [st1 _ _ _ hd (by omega) (by omega) (by omega),st1 _ _ _ (z _ _ hd) (by omega) (by omega) (by omega),st1 _ _ _ (z _ _ (z _ _ hd)) (by omega) (by omega) (by omega)]
 rw [Zr]
 have ew:IntKind.wrap .i64 ((b:Int) - (a:Int))=((b - a:Nat):Int):=wsub (by omega) (by omega)
 have eq4:IntKind.wrap .i64 (Int.tdiv ((b - a:Nat):Int) (4:Int))=(((b - a) / 4:Nat):Int):=by
  rw [Int.tdiv_eq_ediv_of_nonneg (by omega),wi64 (by omega) (by omega)]; omega
 have e6:IntKind.wrap .i64 (IntKind.wrap .i64 ((a:Int) + IntKind.wrap .i64 ((((b - a) / 4:Nat):Int) * (2:Int))) + 1)=((a + (b - a) / 4 * 2 + 1:Nat):Int):=by
  rw [wi64 (x:=(((b - a) / 4:Nat):Int) * 2) (by omega) (by omega),wi64 (x:=(a:Int) + (((b - a) / 4:Nat):Int) * 2) (by omega) (by omega),wi64 (by omega) (by omega)]; omega
 rw [ew,eq4,e6,if_neg (by simp; omega)]
 exact⟨_,rfl⟩
theorem Zqp {n a b:Nat} (hB:n≤1000000) (hb:b≤n) (hab:a≤b) {d:Array Int} (hd:d.size=n) :
  Za5 n d.toList (a:Int) (b:Int)=some (Sort.breakPatterns d a b).toList:=by
 have hB':n≤sB:=by unfold sB; omega
 unfold Za5 Sort.breakPatterns
 have ew:IntKind.wrap .i64 ((b:Int) - (a:Int))=((b - a:Nat):Int):=wsub (by omega) (by omega)
 rw [ew]
 simp only
 by_cases h8:b - a ≥ 8
 ·rw [if_pos (decide_eq_true (show ((b - a:Nat):Int) ≥ 8 by omega)),if_pos h8]
  unfold Ze2
  rw [wu64 (x:=((b - a:Nat):Int)) (by omega) (by omega),Len_eq (by omega)]
  simp only [Option.bind_some]
  have hp:2 ^ Sort.bitsLen (b - a)≤2 * (b - a):=Sort.two_pow_bitsLen_le (by omega)
  have hl:Sort.bitsLen (b - a)<64:=by
   have:=(Sort.bitsLen_le_iff (b - a) 63).2 (by omega)
   omega
  rw [if_pos (by omega),Zzk hl]
  simp only [Option.bind_some]
  have es:((2 ^ Sort.bitsLen (b - a):Nat):Int)=((1 <<< Sort.bitsLen (b - a):Nat):Int):=by rw [Nat.shiftLeft_eq,Nat.one_mul]
  have eq4:IntKind.wrap .i64 (Int.tdiv ((b - a:Nat):Int) (4:Int))=(((b - a) / 4:Nat):Int):=by
   rw [Int.tdiv_eq_ediv_of_nonneg (by omega),wi64 (by omega) (by omega)]; omega
  have e5:IntKind.wrap .i64 (IntKind.wrap .i64 ((a:Int) + IntKind.wrap .i64 ((((b - a) / 4:Nat):Int) * (2:Int))) - 1)=((a + (b - a) / 4 * 2 - 1:Nat):Int):=by
   rw [wi64 (x:=(((b - a) / 4:Nat):Int) * 2) (by omega) (by omega),wi64 (x:=(a:Int) + (((b - a) / 4:Nat):Int) * 2) (by omega) (by omega),wi64 (by omega) (by omega)]; omega
  have eu:((b - a:Nat):Int)=(((UInt64.ofNat (b - a)).toNat:Nat):Int):=by
   rw [UInt64.toNat_ofNat_of_lt' (by show b - a<18446744073709551616; omega)]
  rw [es,eq4,e5]
  have hf:fuel=1180591620717411303420 + 1 + 1 + 1 + 1:=by kernel_rfl
  obtain⟨z,hz⟩:=Zys (m:=1180591620717411303420) (idx:=a + (b - a) / 4 * 2 - 1) (st:=(UInt64.ofNat (b - a),d)) hB' hb h8 hd (by omega) _ rfl
  rw [← hf] at hz
  simp only at hz
  rw [eu,hz]
  simp only [Option.bind_some]
 ·rw [if_neg (by simp; omega),if_neg h8]
end Go.AM
set_option maxRecDepth 100000
namespace Go.AM
open Go
theorem swo_lt:Sort.SWO Sort.ltInt:=Sort.swo_ltInt
theorem Z0t {n a b:Nat} (hab:a≤b) (hb:b≤n) {d:Array Int} (hd:d.size=n):(Sort.insertionSort Sort.ltInt d a b).size=n:=by
 rw [(Sort.insertionSort_holds swo_lt d a b hab (by omega)).1.1,hd]
theorem brk_sz {n a b:Nat} (hab:a≤b) (hb:b≤n) {d:Array Int} (hd:d.size=n):(Sort.breakPatterns d a b).size=n:=by
 rw [(Sort.breakPatterns_holds d a b hab (by omega)).1,hd]
theorem rev_sz {n a b:Nat} (hab:a≤b) (hb:b≤n) {d:Array Int} (hd:d.size=n):(Sort.reverseRange d a b).size=n:=by
 rw [(Sort.reverseRange_holds d a b hab (by omega)).1,hd]
theorem Zs3 {n a b:Nat}:∀(s i:Nat) (d:Array Int),d.size=n→(Sort.partialIns Sort.ltInt a b s i d).1.size=n
 | 0,_,d,hd=>hd
 | s + 1,i,d,hd=>by
  rw [Sort.partialIns]
  simp only
  split
  ·exact hd
  ·split
   ·exact hd
   ·refine Zs3 s _ _ ?_
    split
    ·refine Zr6 _ _ _ ?_ (Nat.le_refl _)
     split
     ·exact Zjh _ _ (by rw [swp_sz,hd])
     ·rw [swp_sz,hd]
    ·split
     ·exact Zjh _ _ (by rw [swp_sz,hd])
     ·rw [swp_sz,hd]
theorem Zvp {n a b p:Nat} (hp0:a≤p) (hp:p<b) (hb:b≤n) {d:Array Int} (hd:d.size=n) :
  a≤(Sort.partition Sort.ltInt d a b p).1∧(Sort.partition Sort.ltInt d a b p).1<b∧(Sort.partition Sort.ltInt d a b p).2.2.size=n:=by
 obtain⟨h1,h2,h3,_⟩:=Sort.partition_holds Sort.ltInt swo_lt d a b p hp0 hp (by omega)
 exact⟨h1,h2,by rw [h3.1,hd]⟩
theorem Zr7 {n a b p:Nat} (hp0:a≤p) (hp:p<b) (hb:b≤n) {d:Array Int} (hd:d.size=n) :
  a<(Sort.partitionEqual Sort.ltInt d a b p).1∧(Sort.partitionEqual Sort.ltInt d a b p).1≤b∧(Sort.partitionEqual Sort.ltInt d a b p).2.size=n:=by
 unfold Sort.partitionEqual
 obtain⟨r1,r2,r3,_⟩:=Sort.partEqLoop_spec Sort.ltInt a b _ (a + 1) (b - 1) (Sort.swp d a p) (Nat.le_refl _) (Nat.lt_succ_self a) (by omega) (by omega) (by rw [swp_sz]; omega) (fun t h1 h2=>by omega) (fun t h1 h2=>by omega)
 exact⟨r1,r2,by rw [r3.1,swp_sz,hd]⟩
theorem pdq_sz {n:Nat}:∀(k:Nat) (d:Array Int) (a b limit:Nat) (wb wp:Bool),b - a≤k→d.size=n→a≤b→b≤n→(Sort.pdq Sort.ltInt d a b limit wb wp).size=n:=by
 intro k
 induction k using Nat.strongRecOn with
 | _ k ih=>
 intro d a b limit wb wp hk hd hab hb
 rw [Sort.pdq]
 split
 ·exact Z0t hab hb hd
 ·rename_i h12
  split
  ·rw [(Sort.heapSort_holds swo_lt d a b hab (by omega)).1.1,hd]
  ·simp only
   have s1:(if (!wb)=true then Sort.breakPatterns d a b else d).size=n:=by
    split
    ·exact brk_sz hab hb hd
    ·exact hd
   generalize (if (!wb)=true then Sort.breakPatterns d a b else d)=d1 at s1 ⊢
   have hc:=Sort.choosePivot_holds Sort.ltInt d1 a b (by omega)
   generalize Sort.choosePivot Sort.ltInt d1 a b=c at hc ⊢
   have s2:(if c.2=.decreasing then Sort.reverseRange d1 a b else d1).size=n:=by
    split
    ·exact rev_sz hab hb s1
    ·exact s1
   generalize (if c.2=.decreasing then Sort.reverseRange d1 a b else d1)=d2 at s2 ⊢
   have hp:a≤(if c.2=.decreasing then (b - 1) - (c.1 - a) else c.1)∧(if c.2=.decreasing then (b - 1) - (c.1 - a) else c.1)<b:=by split <;> omega
   generalize (if c.2=.decreasing then (b - 1) - (c.1 - a) else c.1)=p at hp ⊢
   generalize (if c.2=.decreasing then Sort.Hint.increasing else c.2)=hint
   have s3:(if (wb && wp && decide (hint=.increasing))=true then Sort.partialInsertionSort Sort.ltInt d2 a b else (d2,false)).1.size=n:=by
    split
    ·exact Zs3 _ _ _ s2
    ·exact s2
   generalize (if (wb && wp && decide (hint=.increasing))=true then Sort.partialInsertionSort Sort.ltInt d2 a b else (d2,false))=pi at s3 ⊢
   split
   ·exact s3
   ·split
    ·obtain⟨h1,h2,h3⟩:=Zr7 hp.1 hp.2 hb s3
     rw [dif_pos ⟨h1,h2⟩]
     exact ih _ (by omega) _ _ _ _ _ _ (Nat.le_refl _) h3 h2 hb
    ·obtain⟨h1,h2,h3⟩:=Zvp hp.1 hp.2 hb s3
     rw [dif_pos ⟨h1,h2⟩]
     split
     ·exact ih _ (by omega) _ _ _ _ _ _ (Nat.le_refl _) (ih _ (by omega) _ _ _ _ _ _ (Nat.le_refl _) h3 h1 (by omega)) h2 hb
     ·exact ih _ (by omega) _ _ _ _ _ _ (Nat.le_refl _) (ih _ (by omega) _ _ _ _ _ _ (Nat.le_refl _) h3 h2 hb) h1 (by omega)
theorem Zzs (h:Sort.Hint):(hintN h == (2:Int))=decide (h=.decreasing):=by cases h <;> rfl
theorem Zzt (h:Sort.Hint):(hintN h == (1:Int))=decide (h=.increasing):=by cases h <;> rfl
theorem pdq_eq {n:Nat} (hB:n≤1000000):∀(k:Nat) (nr m:Nat) (d:Array Int) (a b limit:Nat) (wb wp:Bool),b - a≤k→k≤nr→k<m→d.size=n→a≤b→b≤n→limit<1000 →
  Zaq n (Zw nr) m d.toList (a:Int) (b:Int) (limit:Int) wb wp=some (Sort.pdq Sort.ltInt d a b limit wb wp).toList:=by
 have hB':n≤sB:=by unfold sB; omega
 intro k
 induction k using Nat.strongRecOn with
 | _ k ih=>
 intro nr m d a b limit wb wp hk hnr hm hd hab hb hlim
 cases m with
 | zero=>omega
 | succ m=>
 rw [Zaq,Sort.pdq]
 have ew:IntKind.wrap .i64 ((b:Int) - (a:Int))=((b - a:Nat):Int):=wsub (by omega) hab
 rw [ew]
 by_cases h12:b - a≤12
 ·rw [if_pos (decide_eq_true (by omega)),if_pos h12,Zqn hB' hb hab hd]; rfl
 ·rw [if_neg (by simp; omega),if_neg h12]
  by_cases hl:limit=0
  ·rw [if_pos (by simp [hl]),if_pos hl,Zwm hB' (by omega) hb hd]; rfl
  ·rw [if_neg (by simp [hl]),if_neg hl]
   have e1:(if (!wb)=true then (Za5 n d.toList (a:Int) (b:Int)).bind fun(r168:(List Int))=>some (r168,(IntKind.wrap .i64 ((limit:Int) - (1:Int)))) else some (d.toList,(limit:Int)))=some ((if (!wb)=true then Sort.breakPatterns d a b else d).toList,((if (!wb)=true then limit - 1 else limit:Nat):Int)):=by
    cases wb with
    | true=>rfl
    | false=>
     simp only [Bool.not_false,if_true]
     rw [Zqp hB hb hab hd,wi64 (by omega) (by omega)]
     simp only [Option.bind_some]
     congr 2; omega
   rw [e1]
   have s1:(if (!wb)=true then Sort.breakPatterns d a b else d).size=n:=by
    split
    ·exact brk_sz hab hb hd
    ·exact hd
   have hlim':(if (!wb)=true then limit - 1 else limit)<1000:=by split <;> omega
   simp only [Option.bind_some]
   generalize (if (!wb)=true then Sort.breakPatterns d a b else d)=d1 at s1 ⊢
   generalize (if (!wb)=true then limit - 1 else limit)=limit' at hlim' ⊢
   rw [Zs1 hB' (by omega) hb s1]
   simp only [Option.bind_some,Zzs]
   have hc:=Sort.choosePivot_holds Sort.ltInt d1 a b (by omega)
   generalize Sort.choosePivot Sort.ltInt d1 a b=c at hc ⊢
   obtain⟨c1,c2⟩:=c
   simp only at hc ⊢
   have e2:(if decide (c2=Sort.Hint.decreasing)=true then (Za7 n d1.toList (a:Int) (b:Int)).bind fun(r181:(List Int))=>some (r181,(IntKind.wrap .i64 ((IntKind.wrap .i64 ((b:Int) - (1:Int))) - (IntKind.wrap .i64 ((c1:Int) - (a:Int))))),(1:Int)) else some (d1.toList,(c1:Int),hintN c2)) =
     some ((if c2=.decreasing then Sort.reverseRange d1 a b else d1).toList,((if c2=.decreasing then (b - 1) - (c1 - a) else c1:Nat):Int),hintN (if c2=.decreasing then Sort.Hint.increasing else c2)):=by
    by_cases h:c2=.decreasing
    ·rw [if_pos (decide_eq_true h),if_pos h,if_pos h,if_pos h,Zr5 hB' (by omega) hb s1]
     have g1:IntKind.wrap .i64 ((b:Int) - 1)=((b - 1:Nat):Int):=by rw [wi64 (by omega) (by omega)]; omega
     rw [g1,wsub (i:=c1) (j:=a) (by omega) (by omega),wsub (i:=b - 1) (j:=c1 - a) (by omega) (by omega)]
     rfl
    ·rw [if_neg (by simpa using h),if_neg h,if_neg h,if_neg h]
   rw [e2]
   have s2:(if c2=.decreasing then Sort.reverseRange d1 a b else d1).size=n:=by
    split
    ·exact rev_sz hab hb s1
    ·exact s1
   have hp:a≤(if c2=.decreasing then (b - 1) - (c1 - a) else c1)∧(if c2=.decreasing then (b - 1) - (c1 - a) else c1)<b:=by split <;> omega
   simp only [Option.bind_some,Zzt]
   generalize (if c2=.decreasing then Sort.reverseRange d1 a b else d1)=d2 at s2 ⊢
   generalize (if c2=.decreasing then (b - 1) - (c1 - a) else c1)=p at hp ⊢
   generalize (if c2=.decreasing then Sort.Hint.increasing else c2)=hint
   have e3:(if (wb && wp && decide (hint=Sort.Hint.increasing))=true then (Zap n d2.toList (a:Int) (b:Int)).bind fun(r199:(Bool × (List Int)))=>if r199.1=true then some (Sum.inr r199.2) else some (Sum.inl r199.2) else some (Sum.inl d2.toList)) =
     some (if (if (wb && wp && decide (hint=.increasing))=true then Sort.partialInsertionSort Sort.ltInt d2 a b else (d2,false)).2=true then Sum.inr (if (wb && wp && decide (hint=.increasing))=true then Sort.partialInsertionSort Sort.ltInt d2 a b else (d2,false)).1.toList else (Sum.inl (if (wb && wp && decide (hint=.increasing))=true then Sort.partialInsertionSort Sort.ltInt d2 a b else (d2,false)).1.toList:List Int ⊕ List Int)):=by
    by_cases h:(wb && wp && decide (hint=.increasing))=true
    ·rw [if_pos h,if_pos h,Zk5 hB' hb (by omega) s2]
     simp only [Option.bind_some]
     split <;> rfl
    ·rw [if_neg h,if_neg h]; rfl
   rw [e3]
   have s3:(if (wb && wp && decide (hint=.increasing))=true then Sort.partialInsertionSort Sort.ltInt d2 a b else (d2,false)).1.size=n:=by
    split
    ·exact Zs3 _ _ _ s2
    ·exact s2
   simp only [Option.bind_some]
   generalize (if (wb && wp && decide (hint=.increasing))=true then Sort.partialInsertionSort Sort.ltInt d2 a b else (d2,false))=pi at s3 ⊢
   obtain⟨d3,pf⟩:=pi
   simp only at s3 ⊢
   cases pf with
   | true=>rfl
   | false=>
    simp only [Bool.false_eq_true,if_false]
    have e4:((if (decide ((a:Int) > (0:Int)))=true then (idxn n d3.toList (IntKind.wrap .i64 ((a:Int) - (1:Int)))).bind fun(x205:Int)=>(idxn n d3.toList (p:Int)).bind fun(x207:Int)=>(Zac x205 x207).bind fun(r209:Bool)=>some (!r209) else some false)) =
      some (decide (a > 0) && !Sort.ltInt d3[a - 1]! d3[p]!):=by
     cases a with
     | zero=>rfl
     | succ a=>
      rw [if_pos (decide_eq_true (by omega)),wpred (by omega),Zx s3 (by omega),Zx s3 (by omega)]
      simp only [Option.bind_some,Zez,Nat.add_sub_cancel,show a + 1 > 0 from Nat.succ_pos a,decide_true,Bool.true_and]
    rw [e4]
    simp only [Option.bind_some]
    by_cases h:(decide (a > 0) && !Sort.ltInt d3[a - 1]! d3[p]!)=true
    ·rw [if_pos h,if_pos h,Zpc hB' hb hp.1 hp.2 s3]
     obtain⟨h1,h2,h3⟩:=Zr7 hp.1 hp.2 hb s3
     generalize Sort.partitionEqual Sort.ltInt d3 a b p=r at h1 h2 h3 ⊢
     obtain⟨mid,d4⟩:=r
     simp only [Option.bind_some] at h1 h2 h3 ⊢
     rw [dif_pos ⟨h1,h2⟩]
     exact ih (b - mid) (by omega) nr m d4 mid b limit' wb wp (Nat.le_refl _) (by omega) (by omega) h3 h2 hb hlim'
    ·rw [if_neg h,if_neg h,Zvm hB' hb hp.1 hp.2 s3]
     obtain⟨h1,h2,h3⟩:=Zvp hp.1 hp.2 hb s3
     generalize Sort.partition Sort.ltInt d3 a b p=r at h1 h2 h3 ⊢
     obtain⟨mid,ap,d4⟩:=r
     simp only [Option.bind_some] at h1 h2 h3 ⊢
     rw [dif_pos ⟨h1,h2⟩,wsub (i:=mid) (j:=a) (by omega) h1,wsub (i:=b) (j:=mid) (by omega) (by omega),wsuc (by omega)]
     have e8:IntKind.wrap .i64 (Int.tdiv ((b - a:Nat):Int) (8:Int))=(((b - a) / 8:Nat):Int):=by
      rw [Int.tdiv_eq_ediv_of_nonneg (by omega),wi64 (by omega) (by omega)]; omega
     rw [e8]
     obtain⟨nr',rfl⟩:∃ nr',nr=nr' + 1:=⟨nr - 1,by omega⟩
     have sub:∀(d:Array Int) (x y:Nat),d.size=n→x≤y→y≤n→y - x<k→Zw (nr' + 1) n d.toList (x:Int) (y:Int) (limit':Int)=some (Sort.pdq Sort.ltInt d x y limit' true true).toList:=fun d x y hz hxy hy hlt=>by
      rw [Zw,ih (y - x) hlt nr' fuel d x y limit' true true (Nat.le_refl _) (by omega) (by unfold fuel; omega) hz hxy hy hlim']
      rfl
     by_cases h4:mid - a<b - mid
     ·rw [if_pos (decide_eq_true (by omega)),if_pos h4,sub d4 a mid h3 h1 (by omega) (by omega)]
      simp only [Option.bind_some]
      rw [show decide (((mid - a:Nat):Int) ≥ (((b - a) / 8:Nat):Int))=decide (mid - a ≥ (b - a) / 8) from decide_eq_decide.2 (by omega)]
      exact ih (b - (mid + 1)) (by omega) _ m _ (mid + 1) b limit' _ ap (Nat.le_refl _) (by omega) (by omega) (pdq_sz _ _ _ _ _ _ _ (Nat.le_refl _) h3 h1 (by omega)) h2 hb hlim'
     ·rw [if_neg (by simp; omega),if_neg h4,sub d4 (mid + 1) b h3 h2 hb (by omega)]
      simp only [Option.bind_some]
      rw [show decide (((b - mid:Nat):Int) ≥ (((b - a) / 8:Nat):Int))=decide (b - mid ≥ (b - a) / 8) from decide_eq_decide.2 (by omega)]
      exact ih (mid - a) (by omega) _ m _ a mid limit' _ ap (Nat.le_refl _) (by omega) (by omega) (pdq_sz _ _ _ _ _ _ _ (Nat.le_refl _) h3 h2 hb) h1 (by omega) hlim'
theorem Z0u {l:List Int} (hl:l.length≤1000000):Zcx l.length l=some (l.mergeSort (fun x y=>decide (x≤y))):=by
 unfold Zcx
 rw [wu64 (by omega) (by omega),Len_eq (by omega)]
 simp only [Option.bind_some]
 have hb:Sort.bitsLen l.length<1000:=by
  have:=(Sort.bitsLen_le_iff l.length 63).2 (by omega)
  omega
 have hf:fuel=1180591620717411303423 + 1:=by kernel_rfl
 have e:=pdq_eq (n:=l.length) hl l.length 1180591620717411303423 fuel l.toArray 0 l.length (Sort.bitsLen l.length) true true (by omega) (by omega) (by unfold fuel; omega) (by simp) (by omega) (Nat.le_refl _) hb
 rw [show (Zw fuel)=Zw (1180591620717411303423 + 1) from by rw [← hf],Zw]
 rw [show ((0:Nat):Int)=0 from rfl,show l.toArray.toList=l from rfl] at e
 rw [e]
 simp only [Option.bind_some]
 rw [← Sort.sortInt l]
 unfold Sort.sort
 rw [show l.toArray.size=l.length from by simp]
end Go.AM
set_option maxRecDepth 100000
namespace Go.AM
open Go
def dd (l:List Int):List Int:=l.foldl (fun acc x=>if acc.getLast? = some x then acc else acc++[x]) []
theorem Zmh (l:List Int) (x:Int):dd (l++[x])=if (dd l).getLast? = some x then dd l else dd l++[x]:=by
 unfold dd; rw [List.foldl_append]; rfl
theorem Zlt {l:List Int} {k:Nat} (h:k<l.length):l.take (k + 1)=l.take k++[l[k]]:=by
 rw [List.take_add_one,List.getElem?_eq_getElem h]; rfl
theorem Zmu {p:List Int→Prop} (h0:p []) (h1:∀ l x,p l→p (l++[x])) (l:List Int):p l:=by
 have key:∀ n (l:List Int),l.length=n→p l:=by
  intro n
  induction n with
  | zero=>intro l hl; rw [List.length_eq_zero_iff.1 hl]; exact h0
  | succ n ih=>
   intro l hl
   rcases List.eq_nil_or_concat l with rfl | ⟨m,x,rfl⟩
   ·exact h0
   ·rw [List.concat_eq_append] at hl ⊢
    exact h1 _ _ (ih m (by simpa using hl))
 exact key _ l rfl
theorem Zs4 (l:List Int):(dd l).getLast? = l.getLast?:=by
 refine Zmu (p:=fun l=>(dd l).getLast? = l.getLast?) rfl (fun l x ih=>?_) l
 rw [Zmh]
 split
 ·rename_i h; rw [h]; simp
 ·simp
theorem dd_mem (l:List Int) (z:Int):z∈dd l ↔ z∈l:=by
 refine Zmu (p:=fun l=>z∈dd l ↔ z∈l) (Iff.rfl) (fun l x ih=>?_) l
 rw [Zmh]
 split
 ·rename_i h
  have hx:=List.mem_of_getLast? h
  rw [List.mem_append,← ih,List.mem_singleton]
  exact⟨Or.inl,fun h=>h.elim id fun e=>e ▸ hx⟩
 ·rw [List.mem_append,List.mem_append,ih]
theorem dd_len (l:List Int):(dd l).length≤l.length:=by
 refine Zmu (p:=fun l=>(dd l).length≤l.length) (Nat.le_refl _) (fun l x ih=>?_) l
 rw [Zmh]
 split <;> simp <;> omega
theorem Zyt (l:List Int):l.Pairwise (·≤·)→(dd l).Pairwise (·<·):=by
 refine Zmu (p:=fun l=>l.Pairwise (·≤·)→(dd l).Pairwise (·<·)) (fun _=>List.Pairwise.nil) (fun l x ih hp=>?_) l
 rw [List.pairwise_append] at hp
 obtain⟨h1,_,h3⟩:=hp
 have hd:=ih h1
 rw [Zmh]
 split
 ·exact hd
 ·rename_i hne
  rw [List.pairwise_append]
  refine⟨hd,List.pairwise_singleton _ _,fun a ha b hb=>?_⟩
  rw [List.mem_singleton] at hb
  subst hb
  have hle:=h3 a ((dd_mem l a).1 ha) b (List.mem_singleton.2 rfl)
  rcases Int.lt_or_eq_of_le hle with h | h
  ·exact h
  ·exfalso
   subst h
   rw [Zs4] at hne
   cases hl:l.getLast? with
   | none=>rw [List.getLast?_eq_none_iff] at hl; subst hl; simp [dd] at ha
   | some z=>
    have hz:z∈dd l:=(dd_mem l z).2 (List.mem_of_getLast? hl)
    have hza:=h3 z (List.mem_of_getLast? hl) a (List.mem_singleton.2 rfl)
    have hlast:(dd l).getLast? = some z:=by rw [Zs4,hl]
    have hle2:a≤z:=by
     obtain⟨m,hm⟩:=List.getLast?_eq_some_iff.1 hlast
     rw [hm] at ha hd
     rw [List.mem_append] at ha
     rcases ha with ha | ha
     ·rw [List.pairwise_append] at hd
      exact Int.le_of_lt (hd.2.2 a ha z (List.mem_singleton.2 rfl))
     ·rw [List.mem_singleton] at ha; omega
    have:z=a:=by omega
    subst this
    exact hne hl
theorem Zn8 {l:List Int} {n i:Nat} (hn:l.length=n) (h:i<n):idxn n l (i:Int)=some (l[i]'(by omega)):=by
 unfold idxn
 rw [if_pos ⟨by omega,by omega⟩,Zal (by omega)]
theorem Zxb {l:List Int} {k:Nat} (h0:0<k) (h:k<l.length):dd (l.take (k + 1))=if l[k - 1]=l[k] then dd (l.take k) else dd (l.take k)++[l[k]]:=by
 rw [Zlt h,Zmh,Zs4]
 have:(l.take k).getLast? = some (l[k - 1]):=by
  obtain⟨k,rfl⟩:∃ k',k=k' + 1:=⟨k - 1,by omega⟩
  rw [Zlt (by omega),List.getLast?_append]; simp
 rw [this]
 simp only [Option.some.injEq]
theorem Zzu {l:List Int} {n v1:Nat} (hn:l.length=n) (hB:n≤1000000) (h1:0<v1) (hv:v1<n):∀(k i w m:Nat) (v:List Int),v.length=n→n - (v1 + i)=k→k<m→0<i→v1 + i≤n→w≤v1 + i - 1 →
  v.take w=dd (l.take (v1 + i))→v.drop (v1 + i - 1)=l.drop (v1 + i - 1) →
  ∃ v' w',Za2 n (v1:Int) m v (w:Int) (i:Int)=some (v',((w':Nat):Int))∧v'.length=n∧w'≤n∧v'.take w'=dd l:=by
 intro k
 induction k with
 | zero=>
  intro i w m v hl hk hm hi hle hw ht hdr
  cases m with
  | zero=>omega
  | succ m=>
  rw [Za2]
  simp only [Int.toNat_natCast]
  rw [if_neg (by simp; omega)]
  refine⟨v,w,rfl,hl,by omega,?_⟩
  rw [ht,List.take_of_length_le (by omega)]
 | succ k ih=>
  intro i w m v hl hk hm hi hle hw ht hdr
  cases m with
  | zero=>omega
  | succ m=>
  have gt:∀ q,v1 + i - 1≤q→(hq:q<n)→v[q]'(by omega)=l[q]'(by omega):=fun q hq1 hq=>by
   have h2:(v.drop (v1 + i - 1))[q - (v1 + i - 1)]? = (l.drop (v1 + i - 1))[q - (v1 + i - 1)]?:=by rw [hdr]
   rw [List.getElem?_drop,List.getElem?_drop,show v1 + i - 1 + (q - (v1 + i - 1))=q by omega,List.getElem?_eq_getElem (by omega),List.getElem?_eq_getElem (by omega)] at h2
   exact Option.some.inj h2
  have iv:∀ q:Nat,(hq:v1 + q<n)→idxv (n - v1) v (v1:Int) (q:Int)=some (v[v1 + q]'(by omega)):=fun q hq=>by
   unfold idxv
   rw [if_pos ⟨by omega,by omega⟩,show (v1:Int) + (q:Int)=((v1 + q:Nat):Int) by omega,Zal (by omega)]
  have hx:=gt (v1 + i) (by omega) (by omega)
  have hy:=gt (v1 + i - 1) (Nat.le_refl _) (by omega)
  obtain⟨i',rfl⟩:∃ i',i=i' + 1:=⟨i - 1,by omega⟩
  have hy':v[v1 + i']'(by omega)=l[v1 + i']'(by omega):=hy
  have ds:=Zxb (l:=l) (k:=v1 + (i' + 1)) (by omega) (by omega)
  rw [Za2]
  simp only [Int.toNat_natCast]
  rw [if_pos (decide_eq_true (by omega)),iv (i' + 1) (by omega),wpred (by omega),iv i' (by omega)]
  simp only [Option.bind_some,hx,hy']
  simp only [show v1 + (i' + 1) - 1=v1 + i' by omega] at ds
  by_cases he:l[v1 + (i' + 1)]'(by omega)=l[v1 + i']'(by omega)
  ·rw [if_neg (by simp [he])]
   simp only [Option.bind_some]
   rw [wsuc (by omega)]
   refine ih (i' + 1 + 1) w m v hl (by omega) (by omega) (by omega) (by omega) (by omega) ?_ ?_
   ·rw [ht,show v1 + (i' + 1 + 1)=v1 + (i' + 1) + 1 by omega,ds,if_pos he.symm]
   ·rw [show v1 + (i' + 1 + 1) - 1=(v1 + (i' + 1) - 1) + 1 by omega,← List.drop_drop,← List.drop_drop,hdr]
  ·rw [if_pos (by simpa using he),Zn8 hl (show w<n by omega)]
   simp only [Option.bind_some]
   rw [wsuc (by omega),wsuc (by omega)]
   refine ih (i' + 1 + 1) (w + 1) m _ (by rw [List.length_set,hl]) (by omega) (by omega) (by omega) (by omega) (by omega) ?_ ?_
   ·rw [show v1 + (i' + 1 + 1)=v1 + (i' + 1) + 1 by omega,ds,if_neg (fun h=>he h.symm),← ht]
    rw [Zlt (by rw [List.length_set]; omega),List.getElem_set_self,List.take_set_of_le (Nat.le_refl _)]
   ·rw [show v1 + (i' + 1 + 1) - 1=v1 + (i' + 1) by omega,List.drop_set_of_lt (by omega)]
    rw [show v1 + (i' + 1)=(v1 + (i' + 1) - 1) + 1 by omega,← List.drop_drop,← List.drop_drop,hdr]
theorem Zzv {l:List Int} {n:Nat} (hn:l.length=n) (hB:n≤1000000):∀(k i m:Nat),n - i=k→k<m→0<i→i≤n→dd (l.take i)=l.take i →
  ∃ o,Za3 n l m (i:Int)=some o∧((o=.inl ()∧dd l=l)∨∃ w v,o=.inr (w,v)∧v.length=n∧w≤n∧v.take w=dd l):=by
 intro k
 induction k with
 | zero=>
  intro i m hk hm h0 hi hd
  cases m with
  | zero=>omega
  | succ m=>
  rw [Za3,if_neg (by simp; omega)]
  rw [List.take_of_length_le (by omega)] at hd
  exact⟨_,rfl,Or.inl ⟨rfl,hd⟩⟩
 | succ k ih=>
  intro i m hk hm h0 hi hd
  cases m with
  | zero=>omega
  | succ m=>
  have ds:=Zxb (l:=l) h0 (by omega)
  rw [Za3,if_pos (decide_eq_true (by omega)),Zn8 hn (show i<n by omega)]
  obtain⟨i',rfl⟩:∃ i',i=i' + 1:=⟨i - 1,by omega⟩
  rw [wpred (by omega),Zn8 hn (show i'<n by omega)]
  simp only [Option.bind_some,Nat.add_sub_cancel] at ds ⊢
  by_cases he:l[i' + 1]'(by omega)=l[i']'(by omega)
  ·rw [if_pos (by simpa using he),if_pos ⟨by omega,by omega,by omega⟩]
   obtain⟨v,w,e,g1,g2,g3⟩:=Zzu hn hB (show 0<i' + 1 by omega) (by omega) (n - (i' + 1 + 1)) 1 (i' + 1) fuel l hn rfl (by unfold fuel; omega) (by omega) (by omega) (by omega) (by rw [ds,if_pos he.symm,hd]) rfl
   rw [show ((1:Nat):Int)=1 from rfl] at e
   rw [e]
   simp only [Option.bind_some,Int.toNat_natCast]
   rw [if_pos ⟨by omega,by omega,by omega⟩,if_pos (by omega),if_pos ⟨by omega,by omega,by omega⟩]
   refine⟨_,rfl,Or.inr ⟨w,_,rfl,?_,g2,?_⟩⟩
   ·simp only [List.length_append,List.length_take,List.length_replicate,List.length_drop]; omega
   ·rw [List.append_assoc,List.take_append_of_le_length (by rw [List.length_take]; omega),List.take_take,Nat.min_self,g3]
  ·rw [if_neg (by simpa using he),wsuc (by omega)]
   refine ih (i' + 1 + 1) m (by omega) (by omega) (by omega) (by omega) ?_
   rw [ds,if_neg (fun h=>he h.symm),hd,← Zlt]
theorem Zx5 {l:List Int} (hB:l.length≤1000000):∃ w v,Zcb l.length l=some (w,v)∧v.length=l.length∧w≤l.length∧v.take w=dd l:=by
 unfold Zcb
 by_cases h:l.length<2
 ·rw [if_pos (decide_eq_true (by omega))]
  refine⟨_,_,rfl,rfl,Nat.le_refl _,?_⟩
  rw [List.take_length]
  rcases l with _ | ⟨a,_ | ⟨b,l⟩⟩
  ·rfl
  ·rfl
  ·simp at h; omega
 ·rw [if_neg (by simp; omega)]
  have h1:dd (l.take 1)=l.take 1:=by
   rcases l with _ | ⟨a,l⟩
   ·rfl
   ·rfl
  obtain⟨o,e,ho⟩:=Zzv rfl hB (l.length - 1) 1 fuel rfl (by unfold fuel; omega) (by omega) (by omega) h1
  rw [show ((1:Nat):Int)=1 from rfl] at e
  rw [e]
  rcases ho with ⟨rfl,hd⟩ | ⟨w,v,rfl,g1,g2,g3⟩
  ·exact⟨_,_,rfl,rfl,Nat.le_refl _,by rw [List.take_length,hd]⟩
  ·exact⟨w,v,rfl,g1,g2,g3⟩
end Go.AM
set_option maxRecDepth 100000
namespace Go.AM
open Go
def hv (h:Zj):Arr5 Int:=⟨h.Src,h.Dst,h.Proto,h.SrcPort,h.DstPort⟩
theorem Zqq {h:Zj} (hh:Z2 h):Zfi h=some (hv h):=by
 obtain⟨h1,h2,h3,h4,h5,_⟩:=hh
 unfold ok_u8 at h3; unfold Zig at h4 h5
 simp only [Zfi,hv]
 rw [wu32 (x:=h.Proto) (by omega) (by omega),wu32 (x:=h.SrcPort) (by omega) (by omega),wu32 (x:=h.DstPort) (by omega) (by omega)]
theorem Ztx {h:Zj} (hh:Z2 h):Zhp h=some (hv h):=Zqq hh
end Go.AM
set_option maxRecDepth 100000
namespace Go.AM
open Go
def hdr (v:Arr5 Int):Zj:=⟨v.x0,v.x1,v.x2,v.x3,v.x4⟩
structure VOk (v:Arr5 Int):Prop where
 h0:0≤v.x0∧v.x0≤4294967295
 h1:0≤v.x1∧v.x1≤4294967295
 h2:0≤v.x2∧v.x2≤255
 h3:0≤v.x3∧v.x3≤65535
 h4:0≤v.x4∧v.x4≤65535
theorem wu8 {x:Int} (h0:0≤x) (h1:x<256):IntKind.wrap .u8 x=x:=by
 rw [wrap_u .u8 8 rfl rfl]; omega
theorem wu16 {x:Int} (h0:0≤x) (h1:x<65536):IntKind.wrap .u16 x=x:=by
 rw [wrap_u .u16 16 rfl rfl]; omega
theorem hv_ok {h:Zj} (hh:Z2 h):VOk (hv h):=by
 obtain⟨h1,h2,h3,h4,h5,_⟩:=hh
 unfold Zhl at h1 h2; unfold ok_u8 at h3; unfold Zig at h4 h5
 exact⟨⟨h1.1,by simp only [hv]; omega⟩,⟨h2.1,by simp only [hv]; omega⟩,⟨h3.1,by simp only [hv]; omega⟩,⟨h4.1,by simp only [hv]; omega⟩,⟨h5.1,by simp only [hv]; omega⟩⟩
theorem hdr_ok {v:Arr5 Int} (h:VOk v):Z2 (hdr v):=by
 obtain⟨h0,h1,h2,h3,h4⟩:=h
 refine⟨?_,?_,?_,?_,?_,trivial⟩
 ·unfold Zhl; simp only [hdr]; omega
 ·unfold Zhl; simp only [hdr]; omega
 ·unfold ok_u8; simp only [hdr]; omega
 ·unfold Zig; simp only [hdr]; omega
 ·unfold Zig; simp only [hdr]; omega
theorem hv_hdr (v:Arr5 Int):hv (hdr v)=v:=rfl
theorem Zty {v:Arr5 Int} (h:VOk v):Zhr v=some (hdr v):=by
 obtain⟨h0,h1,h2,h3,h4⟩:=h
 simp only [Zhr,hdr]
 rw [wu8 h2.1 (by omega),wu16 h3.1 (by omega),wu16 h4.1 (by omega)]
theorem Zr8 {v:Arr5 Int} (h:VOk v):Ze6 v=some (hdr v):=Zty h
theorem VOk.set {v:Arr5 Int} (h:VOk v) {k x:Int} (h0:0≤k) (h1:k<5) (hx0:0≤x) (hx:x≤topOf k):VOk (v.set k x):=by
 obtain⟨g0,g1,g2,g3,g4⟩:=h
 rcases five h0 h1 with rfl | rfl | rfl | rfl | rfl
 ·exact⟨⟨hx0,hx⟩,g1,g2,g3,g4⟩
 ·exact⟨g0,⟨hx0,hx⟩,g2,g3,g4⟩
 ·exact⟨g0,g1,⟨hx0,hx⟩,g3,g4⟩
 ·exact⟨g0,g1,g2,⟨hx0,hx⟩,g4⟩
 ·exact⟨g0,g1,g2,g3,⟨hx0,hx⟩⟩
theorem VOk.get {v:Arr5 Int} (h:VOk v) {k:Int} (h0:0≤k) (h1:k<5):0≤v.get k∧v.get k≤topOf k:=by
 obtain⟨g0,g1,g2,g3,g4⟩:=h
 rcases five h0 h1 with rfl | rfl | rfl | rfl | rfl
 ·exact g0
 ·exact g1
 ·exact g2
 ·exact g3
 ·exact g4
theorem Zzw {h:Zj} (hh:Z2 h) {k:Int} (h0:0≤k) (h1:k<5):Zii h k=some ((hv h).get k):=by
 unfold Zii
 rw [Ztx hh]
 simp [show ¬ k<0 by omega,show ¬ k ≥ 5 by omega,h0,h1]
theorem Z0v {v:Arr5 Int} (hh:VOk v) {k x:Int} (h0:0≤k) (h1:k<5) (hx0:0≤x) (hx:x≤topOf k):Zh7 (hdr v) k x=some (hdr (v.set k x)):=by
 unfold Zh7
 rw [Ztx (hdr_ok hh),hv_hdr]
 simp only [show ¬ k<0 by omega,show ¬ k ≥ 5 by omega,decide_false,Bool.or_self,Option.bind_some,Bool.false_eq_true,if_false,Zvj h0 h1,show ¬ x > topOf k by omega]
 rw [if_pos (show 0≤k∧k<5 from ⟨h0,h1⟩)]
 simp only [Option.bind_some,Bool.false_eq_true,if_false]
 rw [if_pos (show 0≤k∧k<5 from ⟨h0,h1⟩),Zty (hh.set h0 h1 hx0 hx)]
 rfl
theorem vB_get {b:Arr5 Zb} (h:BIn b) (hv:vB b=true) {k:Int} (h0:0≤k) (h1:k<5):0≤(b.get k).Lo∧(b.get k).Lo≤(b.get k).Hi∧(b.get k).Hi≤topOf k:=by
 obtain⟨g0,g1,g2,g3,g4⟩:=vB_ok h hv
 rcases five h0 h1 with rfl | rfl | rfl | rfl | rfl
 ·exact⟨g0.h0,g0.h1,g0.h2⟩
 ·exact⟨g1.h0,g1.h1,g1.h2⟩
 ·exact⟨g2.h0,g2.h1,g2.h2⟩
 ·exact⟨g3.h0,g3.h1,g3.h2⟩
 ·exact⟨g4.h0,g4.h1,g4.h2⟩
theorem Zvq {k:Int} (h0:0≤k) (h1:k<5):0≤topOf k∧topOf k≤4294967295:=by
 rcases five h0 h1 with rfl | rfl | rfl | rfl | rfl <;> decide
end Go.AM
set_option maxRecDepth 100000
namespace Go.AM
open Go
abbrev Bx:=Arr5 Zb
def toL (b:Bx):List Zb:=[b.x0,b.x1,b.x2,b.x3,b.x4]
def sf (f:Nat) (b:Bx):List Zb:=(toL b).drop f
def zr:Zb:=⟨0,0⟩
def ofL:List Zb→Bx
 | [a,b,c,d,e]=>⟨a,b,c,d,e⟩
 | _=>⟨zr,zr,zr,zr,zr⟩
def pad (f:Nat) (l:List Zb):Bx:=ofL (List.replicate f zr++l)
def tops5:List Int:=[4294967295,4294967295,255,65535,65535]
theorem fiveN {f:Nat} (h:f<5):f=0∨f=1∨f=2∨f=3∨f=4:=by omega
theorem Zg5 {f:Nat} (h:f<5) (b:Bx):sf f b=b.get (f:Int) :: sf (f + 1) b:=by
 rcases fiveN h with rfl | rfl | rfl | rfl | rfl <;> rfl
theorem sf_len {f:Nat} (h:f≤5) (b:Bx):(sf f b).length=5 - f:=by unfold sf toL; rw [List.length_drop]; rfl
theorem Zh2 {f:Nat} (h:f<5):tops5.drop f=topOf (f:Int) :: tops5.drop (f + 1):=by
 rcases fiveN h with rfl | rfl | rfl | rfl | rfl <;> rfl
theorem len4 {l:List Zb} {n:Nat} (h:l.length=n):match n with
  | 0=>l=[]
  | 1=>∃ a,l=[a]
  | 2=>∃ a b,l=[a,b]
  | 3=>∃ a b c,l=[a,b,c]
  | 4=>∃ a b c d,l=[a,b,c,d]
  | 5=>∃ a b c d e,l=[a,b,c,d,e]
  | _=>True:=by
 subst h
 rcases l with _ | ⟨a,_ | ⟨b,_ | ⟨c,_ | ⟨d,_ | ⟨e,_ | ⟨g,l⟩⟩⟩⟩⟩⟩
 ·exact rfl
 ·exact⟨_,rfl⟩
 ·exact⟨_,_,rfl⟩
 ·exact⟨_,_,_,rfl⟩
 ·exact⟨_,_,_,_,rfl⟩
 ·exact⟨_,_,_,_,_,rfl⟩
 ·exact trivial
theorem Zoe {f:Nat} (h:f<5) {l:List Zb} (hl:l.length=4 - f) (r:Zb):(pad (f + 1) l).set (f:Int) r=pad f (r :: l):=by
 have h1:=len4 hl
 rcases fiveN h with rfl | rfl | rfl | rfl | rfl
 ·obtain⟨a,b,c,d,rfl⟩:=h1; rfl
 ·obtain⟨a,b,c,rfl⟩:=h1; rfl
 ·obtain⟨a,b,rfl⟩:=h1; rfl
 ·obtain⟨a,rfl⟩:=h1; rfl
 ·cases h1; rfl
theorem Zxc {l:List Zb} (h:l.length=5):toL (ofL l)=l:=by
 obtain⟨a,b,c,d,e,rfl⟩:=len4 h
 rfl
theorem Zof (b:Bx):ofL (toL b)=b:=rfl
theorem sf_pad {f:Nat} (h:f≤5) {l:List Zb} (hl:l.length=5 - f):sf f (pad f l)=l:=by
 unfold sf pad
 rw [Zxc (by simp; omega),List.drop_left' (by simp)]
theorem Z0w {b b':Bx} (h:toL b=toL b'):b=b':=by rw [← Zof b,h,Zof]
instance decBx:DecidableEq Bx:=fun a b=>if h:toL a=toL b then .isTrue (Z0w h) else .isFalse fun e=>h (by rw [e])
theorem eq_rg (a b:Zb):Zcs a b=decide (a=b):=by
 obtain⟨a1,a2⟩:=a
 obtain⟨b1,b2⟩:=b
 simp only [Zcs,Bool.and_true,Zb.mk.injEq]
 rw [Bool.eq_iff_iff]; simp
theorem eq_bx (a b:Bx):Zfb a b=decide (a=b):=by
 obtain⟨a0,a1,a2,a3,a4⟩:=a
 obtain⟨b0,b1,b2,b3,b4⟩:=b
 simp only [Zfb,Bool.and_true,eq_rg,Arr5.mk.injEq]
 rw [Bool.eq_iff_iff]; simp
theorem Zqr {α:Type} [DecidableEq α]:∀(l pre b:List α),l.length + pre.length=b.length→findI (fun i x=>if b[i]? = some x then none else some false) pre.length l=if l=b.drop pre.length then none else some false
 | [],pre,b,h=>by simp at h; rw [h]; simp [findI]
 | x :: l,pre,b,h=>by
  simp only [List.length_cons] at h
  have hi:pre.length<b.length:=by omega
  rw [List.drop_eq_getElem_cons hi]
  simp only [findI,List.getElem?_eq_getElem hi,List.cons.injEq,Option.some.injEq]
  by_cases e:b[pre.length]=x
  ·rw [if_pos e]
   simp only [e,true_and]
   have:=Zqr l (pre++[x]) b (by simp; omega)
   simp only [List.length_append,List.length_singleton] at this
   exact this
  ·rw [if_neg e,if_neg (fun h=>e h.1.symm)]
theorem Zvr {a b:List Bx} (ha:a.length≤1000000000000):Zbe a b=some (decide (a=b)):=by
 unfold Zbe
 by_cases hl:a.length=b.length
 ·rw [if_neg (by simp [hl])]
  rw [Zlr (L:=Za1 a b) a (fun i x=>if b[i]? = some x then none else some false) ha (fun n i hi=>by
   have hj:i<b.length:=by omega
   rw [Za1]
   simp only [show ((i:Int)<(a.length:Int)) from by omega,decide_true,if_true,Zal hi,Zal hj,Option.bind_some,eq_bx,wsucc (by omega:i<1000000000001),List.getElem?_eq_getElem hj,Option.some.injEq]
   by_cases e:a[i]=b[i]
   ·simp [e]
   ·rw [if_neg (show ¬ b[i]=a[i] from fun h=>e h.symm)]; simp [e]) (fun n=>by rw [Za1]; simp)]
  have:=Zqr a [] b (by simpa using hl)
  simp only [List.length_nil,List.drop_zero] at this
  rw [this]
  by_cases e:a=b
  ·simp [e,orS]
  ·simp [e,orS]
 ·rw [if_pos (by simp; omega)]
  rw [decide_eq_false (fun e=>hl (by rw [e]))]
theorem Zxd {a b:List Bx} (ha:a.length≤1000000000000):Zfv a b=some (decide (a=b)):=by
 unfold Zfv
 by_cases hl:a.length=b.length
 ·rw [if_neg (by simp [hl])]
  rw [Zlr (L:=Zdt a b) a (fun i x=>if b[i]? = some x then none else some false) ha (fun n i hi=>by
   have hj:i<b.length:=by omega
   rw [Zdt]
   simp only [show ((i:Int)<(a.length:Int)) from by omega,decide_true,if_true,Zal hi,Zal hj,Option.bind_some,eq_bx,wsucc (by omega:i<1000000000001),List.getElem?_eq_getElem hj,Option.some.injEq]
   by_cases e:a[i]=b[i]
   ·simp [e]
   ·rw [if_neg (show ¬ b[i]=a[i] from fun h=>e h.symm)]; simp [e]) (fun n=>by rw [Zdt]; simp)]
  have:=Zqr a [] b (by simpa using hl)
  simp only [List.length_nil,List.drop_zero] at this
  rw [this]
  by_cases e:a=b
  ·simp [e,orS]
  ·simp [e,orS]
 ·rw [if_pos (by simp; omega)]
  rw [decide_eq_false (fun e=>hl (by rw [e]))]
def cov (a:List Bx) (f v:Int):List Bx:=a.filter fun b=>inR v (b.get f)
theorem Zjj {α:Type} (p:α→Bool):∀(l acc:List α) (i:Nat),foldI (fun s _ x=>if p x=true then s++[x] else s) acc i l=acc++l.filter p
 | [],acc,i=>by simp [foldI]
 | x :: xs,acc,i=>by
  simp only [foldI,List.filter_cons]
  rw [Zjj p xs]
  cases p x <;> simp
theorem inR_eq (v:Int) (r:Zb):inR v r=(decide (r.Lo≤v) && decide (v≤r.Hi)):=rfl
theorem Zpm {a:List Bx} (ha:a.length≤2000000000) {f:Int} (h0:0≤f) (h1:f<5) (v:Int):Zdo a f v=some (cov a f v):=by
 unfold Zdo
 have:=Zfu (L:=Zb6 a f v) a (fun s _ x=>if inR v (x.get f)=true then s++[x] else s) id (fun i s=>s.length≤i) (by omega) (fun n s i hi hs=>by
  rw [Zb6]
  simp only [show ((i:Int)<(a.length:Int)) from by omega,decide_true,if_true,Zal hi,Option.bind_some,wsucc (by omega:i<1000000000001),List.length_singleton]
  rw [if_pos ⟨h0,h1⟩,inR_eq]
  rw [if_pos (show s.length + 1≤lim by unfold lim; omega)]
  cases decide (((a[i]).get f).Lo≤v) <;> cases decide (v≤((a[i]).get f).Hi) <;> simp [h0,h1] <;> omega) (fun n s hs=>by rw [Zb6]; simp) [] (Nat.le_refl _)
 rw [this.1,Zjj]
 rfl
theorem at_eq {a:List Bx} (ha:a.length≤2000000000) {f:Int} (h0:0≤f) (h1:f<5) (v:Int) (hin:∀ b∈a,BIn b):Zg4 a f v=some (cov a f v):=by
 unfold Zg4
 have:=Zfu (L:=Zel a f v) a (fun s _ x=>if inR v (x.get f)=true then s++[x] else s) id (fun i s=>s.length≤i) (by omega) (fun n s i hi hs=>by
  rw [Zel]
  have hb:=(hin _ (List.getElem_mem hi)).get f
  have e1:IntKind.wrap .u64 ((a[i]).get f).Lo=((a[i]).get f).Lo:=wu64 hb.h0 (by have:=hb.h1; omega)
  have e2:IntKind.wrap .u64 ((a[i]).get f).Hi=((a[i]).get f).Hi:=wu64 hb.h2 (by have:=hb.h3; omega)
  simp only [show ((i:Int)<(a.length:Int)) from by omega,decide_true,if_true,Zal hi,Option.bind_some,wsucc (by omega:i<1000000000001),List.length_singleton,e1,e2]
  rw [if_pos ⟨h0,h1⟩,inR_eq]
  rw [if_pos (show s.length + 1≤lim by unfold lim; omega)]
  cases decide (((a[i]).get f).Lo≤v) <;> cases decide (v≤((a[i]).get f).Hi) <;> simp [h0,h1] <;> omega) (fun n s hs=>by rw [Zel]; simp) [] (Nat.le_refl _)
 rw [this.1,Zjj]
 rfl
theorem Zxe {f:Nat} (h:f<5) (a:List Bx) (v:Int):(cov a (f:Int) v).map (sf (f + 1))=atv (a.map (sf f)) v:=by
 induction a with
 | nil=>rfl
 | cons b a ih=>
  have e:atv ((b :: a).map (sf f)) v=(if inR v (b.get (f:Int)) then [sf (f + 1) b] else [])++atv (a.map (sf f)) v:=by
   rw [List.map_cons,Zg5 h]; rfl
  rw [e,← ih]
  unfold cov
  rw [List.filter_cons]
  cases inR v (b.get (f:Int)) <;> simp
theorem Zog (a:List Bx) (f v:Int):(cov a f v).length≤a.length:=List.length_filter_le ..
theorem Z0x {a:List Bx} {f v:Int} {b:Bx} (h:b∈cov a f v):b∈a:=(List.mem_filter.1 h).1
theorem Ztz (b:Bx):Zck b=some (!vB b):=by
 unfold Zck; rw [Zzl]; rfl
theorem Zyu {a:List Bx} (ha:a.length≤2000000000):Zgi a=some (a.filter vB):=by
 unfold Zgi
 have:=Zfu (L:=Zdf a) a (fun s _ x=>if vB x=true then s++[x] else s) id (fun i s=>s.length≤i) (by omega) (fun n s i hi hs=>by
  rw [Zdf]
  simp only [show ((i:Int)<(a.length:Int)) from by omega,decide_true,if_true,Zal hi,Option.bind_some,wsucc (by omega:i<1000000000001),List.length_singleton,Ztv]
  rw [if_pos (show s.length + 1≤lim by unfold lim; omega)]
  cases vB a[i] <;> simp <;> omega) (fun n s hs=>by rw [Zdf]; simp) [] (Nat.le_refl _)
 rw [this.1,Zjj]
 rfl
theorem Zqs {α:Type} {l:List α} {n i:Nat} (hn:l.length=n) (h:i<n):idxn n l (i:Int)=some (l[i]'(by omega)):=by
 unfold idxn
 rw [if_pos ⟨by omega,by omega⟩,Zal (by omega)]
theorem Zzx {l:List Bx} {n:Nat} (hn:l.length=n) (hB:n≤2000000000):∀(k j w m:Nat) (v:List Bx),n - j=k→k<m→v.length=n→w<j→j≤n→v.take w=(l.take j).filter vB→v.drop j=l.drop j →
  ∃ v' w',Z1 n m v (w:Int) (j:Int)=some (v',((w':Nat):Int))∧v'.length=n∧w'≤n∧v'.take w'=l.filter vB:=by
 intro k
 induction k with
 | zero=>
  intro j w m v hk hm hv hw hj ht hd
  cases m with
  | zero=>omega
  | succ m=>
  rw [Z1,if_neg (by simp; omega)]
  refine⟨v,w,rfl,hv,by omega,?_⟩
  rw [ht,List.take_of_length_le (by omega)]
 | succ k ih=>
  intro j w m v hk hm hv hw hj ht hd
  cases m with
  | zero=>omega
  | succ m=>
  have hjn:j<n:=by omega
  have hx:v[j]'(by omega)=l[j]'(by omega):=by
   have h2:(v.drop j)[0]? = (l.drop j)[0]?:=by rw [hd]
   rw [List.getElem?_drop,List.getElem?_drop,Nat.add_zero,List.getElem?_eq_getElem (by omega),List.getElem?_eq_getElem (by omega)] at h2
   exact Option.some.inj h2
  have tk:(l.take (j + 1)).filter vB=(l.take j).filter vB++if vB (l[j]'(by omega))=true then [l[j]'(by omega)] else []:=by
   rw [List.take_add_one,List.getElem?_eq_getElem (by omega),List.filter_append]
   congr 1
   simp only [Option.toList_some,List.filter_cons,List.filter_nil]
  rw [Z1]
  rw [if_pos (decide_eq_true (by omega)),Zqs hv hjn]
  simp only [Option.bind_some,Ztz,hx,Bool.not_not]
  by_cases hval:vB (l[j]'(by omega))=true
  ·rw [if_pos hval,Zqs hv (by omega:w<n)]
   simp only [Option.bind_some,Int.toNat_natCast]
   rw [wsuc (by omega),wsuc (by omega)]
   refine ih (j + 1) (w + 1) m _ (by omega) (by omega) (by rw [List.length_set]; exact hv) (by omega) (by omega) ?_ ?_
   ·rw [tk,if_pos hval,← ht,List.take_add_one,List.getElem?_eq_getElem (by rw [List.length_set]; omega),List.getElem_set_self,List.take_set_of_le (Nat.le_refl _)]
    rfl
   ·rw [List.drop_set_of_lt (by omega),← List.drop_drop,hd,List.drop_drop]
  ·rw [if_neg hval]
   simp only [Option.bind_some]
   rw [wsuc (by omega)]
   refine ih (j + 1) w m v (by omega) (by omega) hv (by omega) (by omega) ?_ ?_
   ·rw [tk,if_neg hval,List.append_nil,ht]
   ·rw [← List.drop_drop,hd,List.drop_drop]
theorem Zpn {α:Type} (p:α→Bool):∀(l:List α) (i:Nat),(findI (fun i x=>if p x=true then some ((i:Nat):Int) else none) i l=none∧∀ x∈l,p x=false) ∨
  ∃ j,findI (fun i x=>if p x=true then some ((i:Nat):Int) else none) i l=some ((i + j:Nat):Int)∧∃ h:j<l.length,p l[j]=true∧∀ x∈l.take j,p x=false
 | [],i=>Or.inl ⟨rfl,fun _ h=>(by cases h)⟩
 | x :: l,i=>by
  by_cases hx:p x=true
  ·exact Or.inr ⟨0,by simp only [findI,if_pos hx]; rfl,by simp,hx,fun _ h=>(by cases h)⟩
  ·rcases Zpn p l (i + 1) with ⟨h1,h2⟩ | ⟨j,h1,h2,h3,h4⟩
   ·refine Or.inl ⟨by simp only [findI,if_neg hx,h1],fun y hy=>?_⟩
    rcases List.mem_cons.1 hy with rfl | hy
    ·simpa using hx
    ·exact h2 y hy
   ·refine Or.inr ⟨j + 1,by simp only [findI,if_neg hx,h1]; rw [show i + 1 + j=i + (j + 1) by omega],by simp only [List.length_cons]; omega,by simpa using h3,fun y hy=>?_⟩
    rw [List.take_succ_cons] at hy
    rcases List.mem_cons.1 hy with rfl | hy
    ·simpa using hx
    ·exact h4 y hy
theorem del_eq {l:List Bx} (hB:l.length≤2000000000):∃ w v,Zax l.length l=some (w,v)∧v.length=l.length∧w≤l.length∧v.take w=l.filter vB:=by
 unfold Zax Zbj
 rw [Zlr (L:=Z4 l.length l) l (fun i x=>if (!vB x)=true then some ((i:Nat):Int) else none) (by omega) (fun n i hi=>by
  rw [Z4]
  simp only [show ((i:Int)<(l.length:Int)) from by omega,decide_true,if_true,Zqs rfl hi,Option.bind_some,Ztz,wsucc (by omega:i<1000000000001)]
  cases vB l[i] <;> rfl) (fun n=>by rw [Z4]; simp)]
 rcases Zpn (fun x=>!vB x) l 0 with ⟨h1,h2⟩ | ⟨j,h1,h2,h3,h4⟩
 ·rw [h1]
  simp only [orS,Option.bind_some]
  rw [if_pos (by decide)]
  refine⟨_,_,rfl,rfl,Nat.le_refl _,?_⟩
  rw [List.take_length,List.filter_eq_self.2 fun x hx=>by simpa using h2 x hx]
 ·rw [h1]
  simp only [orS,Option.bind_some]
  rw [if_neg (by simp),Nat.zero_add,wsuc (by omega)]
  have tk:(l.take j).filter vB=l.take j:=List.filter_eq_self.2 fun x hx=>by simpa using h4 x hx
  obtain⟨v,w,e,g1,g2,g3⟩:=Zzx rfl hB (l.length - (j + 1)) (j + 1) j fuel l rfl (by unfold fuel; omega) rfl (by omega) (by omega) (by
   rw [List.take_add_one,List.filter_append,List.getElem?_eq_getElem h2,tk]
   have:vB l[j]=false:=by simpa using h3
   simp [this]) rfl
  rw [e]
  simp only [Option.bind_some,Int.toNat_natCast]
  rw [if_pos ⟨by omega,by omega,by omega⟩,if_pos (by omega),if_pos ⟨by omega,by omega,by omega⟩]
  refine⟨_,_,rfl,?_,g2,?_⟩
  ·simp only [List.length_append,List.length_take,List.length_replicate,List.length_drop]; omega
  ·rw [List.append_assoc,List.take_append_of_le_length (by rw [List.length_take]; omega),List.take_take,Nat.min_self,g3]
theorem Zt0 {l:List Bx} (hB:l.length≤2000000000):Zev l=some (l.filter vB):=by
 unfold Zev
 rw [if_pos (by unfold lim; omega)]
 cases l with
 | nil=>rfl
 | cons b l=>
  obtain⟨w,v,e,g1,g2,g3⟩:=del_eq hB
  rw [e]
  simp only [handB,Option.bind_some]
  rw [if_pos ⟨g1,by omega⟩]
  simp only [Option.bind_some,g3]
end Go.AM
set_option maxRecDepth 100000
namespace Go.AM
open Go
theorem Z0y {f:Nat} (h:f<5):Zk9 (f:Int)=some (topOf (f:Int)):=by
 rcases fiveN h with rfl | rfl | rfl | rfl | rfl <;> rfl
theorem topN {f:Nat} (h:f<5):0≤topOf (f:Int)∧topOf (f:Int)≤4294967295:=Zvq (by omega) (by omega)
theorem BOk.at_ {b:Bx} (h:BOk b) {f:Nat} (hf:f<5):0≤(b.get (f:Int)).Lo∧(b.get (f:Int)).Lo≤(b.get (f:Int)).Hi∧(b.get (f:Int)).Hi≤topOf (f:Int):=
 vB_get h.bin (ok_vB h) (by omega) (by omega)
structure Pts (f:Nat) (l:List Bx) (ps:List Int):Prop where
 asc:ps.Pairwise (·<·)
 h0:∃ tl,ps=0 :: tl
 hl:ps.getLast? = some (topOf (f:Int) + 1)
 cut:∀ b∈l,(b.get (f:Int)).Lo∈ps∧(b.get (f:Int)).Hi + 1∈ps
 len:ps.length≤2 * l.length + 2
theorem Zvs {ps:List Int} (ha:ps.Pairwise (·<·)) {z:Int} (hz:z∈ps) (hb:∀ x∈ps,z≤x):∃ tl,ps=z :: tl:=by
 cases ps with
 | nil=>cases hz
 | cons p ps=>
  rcases List.mem_cons.1 hz with rfl | h
  ·exact⟨ps,rfl⟩
  ·have:=(List.pairwise_cons.1 ha).1 z h
   have:=hb p (List.mem_cons_self ..)
   omega
theorem Zzy {ps:List Int} (ha:ps.Pairwise (·<·)) {z:Int} (hz:z∈ps) (hb:∀ x∈ps,x≤z):ps.getLast? = some z:=by
 rcases List.eq_nil_or_concat ps with rfl | ⟨qs,p,rfl⟩
 ·cases hz
 ·rw [List.concat_eq_append] at *
  rw [List.getLast?_concat]
  rcases List.mem_append.1 hz with h | h
  ·have:=(List.pairwise_append.1 ha).2.2 z h p (List.mem_singleton.2 rfl)
   have:=hb p (List.mem_append_right _ (List.mem_singleton.2 rfl))
   omega
  ·rw [List.mem_singleton] at h; rw [h]
def rawC (f:Int) (l:List Bx):List Int:=l.flatMap fun b=>[(b.get f).Lo,(b.get f).Hi + 1]
theorem Zvt (f:Int) (l:List Bx):(rawC f l).length=2 * l.length:=by
 induction l with
 | nil=>rfl
 | cons b l ih=>unfold rawC at *; rw [List.flatMap_cons,List.length_append,ih]; simp; omega
theorem Zvu {f:Nat} (hf:f<5) {l:List Bx} (hl:l.length≤400000) (hin:∀ b∈l,BOk b) (acc:List Int) (ha:acc.length≤1000000):Zcl (f:Int) l fuel acc 0=some (acc++rawC f l):=by
 have:=Zfu (L:=Zcl (f:Int) l) l (fun s _ x=>s++[(x.get (f:Int)).Lo,(x.get (f:Int)).Hi + 1]) id (fun i s=>s.length≤1000000 + 2 * i) (by omega) (fun n s i hi hs=>by
  have hb:=(hin _ (List.getElem_mem hi)).at_ hf
  have ht:=topN hf
  rw [Zcl]
  simp only [show ((i:Int)<(l.length:Int)) from by omega,decide_true,if_true,Zal hi,Option.bind_some,wsucc (by omega:i<1000000000001),List.length_cons,List.length_nil]
  rw [if_pos ⟨by omega,by omega⟩,if_pos ⟨by omega,by omega⟩,if_pos (show s.length + (0 + 1 + 1)≤lim by unfold lim; omega)]
  rw [wu64 (x:=((l[i]).get (f:Int)).Lo) (by omega) (by omega),wu64 (x:=((l[i]).get (f:Int)).Hi) (by omega) (by omega),wu64 (by omega) (by omega)]
  exact⟨rfl,by simp; omega⟩) (fun n s hs=>by rw [Zcl]; simp) acc (by omega)
 rw [this.1,Zr2]
 rfl
theorem Zzz {f:Nat} (hf:f<5) {a b:List Bx} (hl:a.length + b.length≤400000) (ha:∀ x∈a,BOk x) (hb:∀ x∈b,BOk x) (acc:List Int) (hacc:acc.length≤2):Zcm (f:Int) [a,b] fuel acc 0=some (acc++rawC f (a++b)):=by
 obtain⟨m,hm⟩:=Zms 2 (by omega)
 rw [hm]
 have i0:idx [a,b] (0:Int)=some a:=rfl
 have i1:idx [a,b] (0 + 1:Int)=some b:=rfl
 rw [Zcm,if_pos (by simp),i0]
 simp only [Option.bind_some]
 rw [Zvu hf (by omega) ha acc (by omega)]
 simp only [Option.bind_some]
 rw [wi64 (by omega) (by omega),Zcm,if_pos (by simp),i1]
 simp only [Option.bind_some]
 rw [Zvu hf (by omega) hb _ (by rw [List.length_append,Zvt]; omega)]
 simp only [Option.bind_some]
 rw [wi64 (by omega) (by omega),Zcm,if_neg (by simp)]
 unfold rawC
 rw [List.flatMap_append,List.append_assoc]
theorem Z0z {f:Nat} (hf:f<5) {a b:List Bx} (hl:a.length + b.length≤400000) (ha:∀ x∈a,BOk x) (hb:∀ x∈b,BOk x):Ok (Ze4 (f:Int) [a,b]) (Pts f (a++b)):=by
 have ht:=topN hf
 unfold Ze4
 rw [Z0y hf]
 simp only [Option.bind_some]
 rw [wu64 (x:=topOf (f:Int)) (by omega) (by omega),wu64 (by omega) (by omega),Zzz hf hl ha hb _ (by simp)]
 simp only [Option.bind_some]
 rw [if_pos (by simp)]
 have hlen:([0,topOf (f:Int) + 1]++rawC (f:Int) (a++b)).length=2 + 2 * (a++b).length:=by rw [List.length_append,Zvt]; rfl
 have hab:(a++b).length=a.length + b.length:=List.length_append
 generalize hr:[0,topOf (f:Int) + 1]++rawC (f:Int) (a++b)=raw at hlen
 rw [Z0u (by omega)]
 simp only [Option.bind_some]
 rw [if_pos (List.length_mergeSort _)]
 have hms:(raw.mergeSort (fun x y=>decide (x≤y))).length=raw.length:=List.length_mergeSort _
 obtain⟨w,v,e,g1,g2,g3⟩:=Zx5 (l:=raw.mergeSort (fun x y=>decide (x≤y))) (by omega)
 rw [e]
 have hb2:handB (raw.mergeSort (fun x y=>decide (x≤y))) (some (w,v)) Zcc=some (w,v):=by
  cases hq:raw.mergeSort (fun x y=>decide (x≤y)) with
  | nil=>rw [hq] at hms; simp at hms; omega
  | cons x l=>
   rw [hq] at g1 g2
   simp only [handB,Option.bind_some]
   rw [if_pos ⟨g1,by omega⟩]
 rw [hb2]
 simp only [Option.bind_some,g3]
 have hmem:∀ x,x∈dd (raw.mergeSort (fun x y=>decide (x≤y))) ↔ x∈raw:=fun x=>by rw [dd_mem,List.mem_mergeSort]
 have hasc:(dd (raw.mergeSort (fun x y=>decide (x≤y)))).Pairwise (·<·):=by
  refine Zyt _ ?_
  have:=List.pairwise_mergeSort (le:=fun x y:Int=>decide (x≤y)) (fun a b c h1 h2=>by simp only [decide_eq_true_eq] at *; omega) (fun a b=>by simp only [Bool.or_eq_true,decide_eq_true_eq]; omega) raw
  exact this.imp fun h=>by simpa using h
 have hrng:∀ x∈raw,0≤x∧x≤topOf (f:Int) + 1:=by
  intro x hx
  rw [← hr] at hx
  simp only [List.mem_append,List.mem_cons,List.not_mem_nil,or_false,rawC,List.mem_flatMap] at hx
  rcases hx with (rfl | rfl) | ⟨b',hb',rfl | rfl⟩
  ·omega
  ·omega
  ·have:=(hb'.elim (fun h=>ha b' h) (fun h=>hb b' h)).at_ hf; omega
  ·have:=(hb'.elim (fun h=>ha b' h) (fun h=>hb b' h)).at_ hf; omega
 refine Ok.ret ⟨hasc,Zvs hasc ((hmem 0).2 (by rw [← hr]; simp)) fun x hx=>(hrng x ((hmem x).1 hx)).1,Zzy hasc ((hmem _).2 (by rw [← hr]; simp)) fun x hx=>(hrng x ((hmem x).1 hx)).2,fun x hx=>⟨(hmem _).2 ?_,(hmem _).2 ?_⟩,?_⟩
 ·rw [← hr]; exact List.mem_append_right _ (List.mem_flatMap.2 ⟨x,hx,by simp⟩)
 ·rw [← hr]; exact List.mem_append_right _ (List.mem_flatMap.2 ⟨x,hx,by simp⟩)
 ·have:=dd_len (raw.mergeSort (fun x y=>decide (x≤y)))
  omega
theorem Zyv {f:Nat} (hf:f<5) {a b:List Bx} (hl:a.length + b.length≤400000):Zfz a b (f:Int)=some ((a++b).map fun x=>x.get (f:Int)):=by
 unfold Zfz
 have h1:=Zfu (L:=Zc7 a (f:Int)) a (fun s _ x=>s++[x.get (f:Int)]) id (fun i s=>s.length≤i) (by omega) (fun n s i hi hs=>by
  rw [Zc7]
  simp only [show ((i:Int)<(a.length:Int)) from by omega,decide_true,if_true,Zal hi,Option.bind_some,wsucc (by omega:i<1000000000001),List.length_singleton]
  rw [if_pos ⟨by omega,by omega⟩,if_pos (show s.length + 1≤lim by unfold lim; omega)]
  exact⟨rfl,by simp; omega⟩) (fun n s hs=>by rw [Zc7]; simp) [] (Nat.le_refl _)
 rw [h1.1,Zj9]
 simp only [id,List.nil_append,Option.bind_some]
 have h2:=Zfu (L:=Zc8 b (f:Int)) b (fun s _ x=>s++[x.get (f:Int)]) id (fun i s=>s.length≤a.length + i) (by omega) (fun n s i hi hs=>by
  rw [Zc8]
  simp only [show ((i:Int)<(b.length:Int)) from by omega,decide_true,if_true,Zal hi,Option.bind_some,wsucc (by omega:i<1000000000001),List.length_singleton]
  rw [if_pos ⟨by omega,by omega⟩,if_pos (show s.length + 1≤lim by unfold lim; omega)]
  exact⟨rfl,by simp; omega⟩) (fun n s hs=>by rw [Zc8]; simp) (a.map fun x=>x.get (f:Int)) (by simp)
 rw [h2.1,Zj9,List.map_append]
 rfl
theorem Z00 {l:List Int} {v:Int} (hl:l.length≤1000000):∀(k i n:Nat),l.length - i=k→k<n→i≤l.length→(∀ x∈l.take i,x<v)→∃ j,Zc9 l v n (i:Int)=some ((j:Nat):Int)∧j≤l.length∧(∀ x∈l.take j,x<v)∧∀ h:j<l.length,v≤l[j]:=by
 intro k
 induction k with
 | zero=>
  intro i n hk hn hi hx
  cases n with
  | zero=>omega
  | succ n=>
  refine⟨i,?_,hi,hx,fun h=>by omega⟩
  rw [Zc9]
  have:decide ((i:Int)<(l.length:Int))=false:=by simp; omega
  rw [this]; rfl
 | succ k ih=>
  intro i n hk hn hi hx
  cases n with
  | zero=>omega
  | succ n=>
  have h1:i<l.length:=by omega
  rw [Zc9]
  have:decide ((i:Int)<(l.length:Int))=true:=by simp; omega
  rw [this]
  simp only [Option.bind_some,if_true,Zal h1]
  by_cases hlt:l[i]<v
  ·rw [if_pos (decide_eq_true hlt),wsucc (by omega)]
   refine ih (i + 1) n (by omega) (by omega) (by omega) fun x hx'=>?_
   rw [List.take_add_one,List.getElem?_eq_getElem h1] at hx'
   rcases List.mem_append.1 hx' with h | h
   ·exact hx x h
   ·simp at h; rw [h]; exact hlt
  ·rw [if_neg (by simpa using hlt)]
   exact⟨i,rfl,hi,hx,fun _=>by omega⟩
structure InsP (l:List Int) (v top:Int) (r:List Int):Prop where
 asc:r.Pairwise (·<·)
 mem:∀ x,x∈r ↔ x∈l∨(x=v∧v≤top)
 len:r.length≤l.length + 1
theorem Zt1 {l:List Int} {v top:Int} (hl:l.length≤1000000) (ha:l.Pairwise (·<·)) (h0:0≤top) (h1:top<4294967296):Ok (Ze3 l v top) (InsP l v top):=by
 unfold Ze3
 rw [wu64 h0 (by omega)]
 by_cases hv:v > top
 ·rw [if_pos (decide_eq_true hv)]
  exact Ok.ret ⟨ha,fun x=>⟨Or.inl,fun h=>h.elim id fun h=>by omega⟩,by omega⟩
 ·rw [if_neg (by simpa using hv)]
  obtain⟨j,e,g1,g2,g3⟩:=Z00 (v:=v) hl l.length 0 fuel (by omega) (by unfold fuel; omega) (by omega) (fun x h=>(by cases h))
  rw [show ((0:Nat):Int)=0 from rfl] at e
  rw [e]
  simp only [Option.bind_some]
  have tail:∀ x∈l.drop j,v≤x:=by
   intro x hx
   by_cases hj:j<l.length
   ·rw [List.drop_eq_getElem_cons hj] at hx
    have hp:=ha.sublist (List.drop_sublist j l)
    rw [List.drop_eq_getElem_cons hj] at hp
    have:=g3 hj
    rcases List.mem_cons.1 hx with rfl | hx
    ·exact this
    ·have:=(List.pairwise_cons.1 hp).1 x hx; omega
   ·rw [List.drop_eq_nil_of_le (by omega)] at hx; cases hx
  have fin:(¬ ∃ h:j<l.length,l[j]=v)→Ok (if 0≤(0:Int)∧(0:Int)≤(j:Int)∧(j:Int)≤(List.length l:Int) then
    if List.length ([]:(List Int)) + List.length (List.drop (Int.toNat (0:Int)) (List.take (Int.toNat (j:Int)) l))≤lim then
    if List.length (([]:(List Int))++(List.drop (Int.toNat (0:Int)) (List.take (Int.toNat (j:Int)) l))) + List.length [v]≤lim then
    if 0≤(j:Int)∧(j:Int)≤(List.length l:Int)∧(List.length l:Int)≤(List.length l:Int) then
    if List.length ((([]:(List Int))++(List.drop (Int.toNat (0:Int)) (List.take (Int.toNat (j:Int)) l)))++[v]) + List.length (List.drop (Int.toNat (j:Int)) (List.take (Int.toNat (List.length l:Int)) l))≤lim then
    some (((([]:(List Int))++(List.drop (Int.toNat (0:Int)) (List.take (Int.toNat (j:Int)) l)))++[v])++(List.drop (Int.toNat (j:Int)) (List.take (Int.toNat (List.length l:Int)) l)))
    else none
    else none
    else none
    else none
    else none) (InsP l v top):=by
   intro hne
   have e1:List.drop (Int.toNat (0:Int)) (List.take (Int.toNat (j:Int)) l)=l.take j:=rfl
   have e2:List.drop (Int.toNat (j:Int)) (List.take (Int.toNat (List.length l:Int)) l)=l.drop j:=by rw [Int.toNat_natCast,Int.toNat_natCast,List.take_length]
   rw [e1,e2,List.nil_append]
   have l1:(l.take j).length=j:=by rw [List.length_take]; omega
   have l2:(l.drop j).length=l.length - j:=List.length_drop
   refine Ok.chk ⟨by omega,by omega,by omega⟩ (Ok.chk ?_ (Ok.chk ?_ (Ok.chk ⟨by omega,by omega,by omega⟩ (Ok.chk ?_ (Ok.ret ⟨?_,fun x=>?_,?_⟩)))))
   ·rw [l1]; unfold lim; simp; omega
   ·rw [l1]; unfold lim; simp; omega
   ·rw [List.length_append,l1,l2]; unfold lim; simp; omega
   ·have hp1:=ha.sublist (List.take_sublist j l)
    have hp2:=ha.sublist (List.drop_sublist j l)
    have hlt:∀ x∈l.drop j,v<x:=by
     intro x hx
     have:=tail x hx
     rcases Int.lt_or_eq_of_le this with h | h
     ·exact h
     ·exfalso
      subst h
      by_cases hj:j<l.length
      ·have hv:=g3 hj
       rw [List.drop_eq_getElem_cons hj] at hx hp2
       rcases List.mem_cons.1 hx with h | h
       ·exact hne ⟨hj,h.symm⟩
       ·have:=(List.pairwise_cons.1 hp2).1 _ h; omega
      ·rw [List.drop_eq_nil_of_le (by omega)] at hx; cases hx
    rw [List.append_assoc,List.pairwise_append]
    refine⟨hp1,List.pairwise_cons.2 ⟨hlt,hp2⟩,fun x hx y hy=>?_⟩
    have:=g2 x hx
    rcases List.mem_cons.1 hy with rfl | hy
    ·exact this
    ·have:=hlt y hy; omega
   ·have hm:x∈l ↔ x∈l.take j∨x∈l.drop j:=by rw [← List.mem_append,List.take_append_drop]
    simp only [List.mem_append,List.mem_cons,List.not_mem_nil,or_false,hm]
    constructor
    ·rintro((h | h) | h)
     ·exact Or.inl (Or.inl h)
     ·exact Or.inr ⟨h,by omega⟩
     ·exact Or.inl (Or.inr h)
    ·rintro((h | h) | h)
     ·exact Or.inl (Or.inl h)
     ·exact Or.inr h
     ·exact Or.inl (Or.inr h.1)
   ·rw [List.length_append,List.length_append,l1,l2]; simp; omega
  by_cases hj:j<l.length
  ·have:decide ((j:Int)<(l.length:Int))=true:=by simp; omega
   rw [this]
   simp only [if_true,Zal hj,Option.bind_some]
   by_cases he:l[j]=v
   ·rw [if_pos (by simpa using he)]
    refine Ok.ret ⟨ha,fun x=>⟨Or.inl,fun h=>h.elim id fun h=>?_⟩,by omega⟩
    rw [h.1,← he]; exact List.getElem_mem hj
   ·rw [if_neg (by simpa using he)]
    exact fin fun⟨_,h⟩=>he h
  ·have:decide ((j:Int)<(l.length:Int))=false:=by simp; omega
   rw [this]
   simp only [Bool.false_eq_true,if_false,Option.bind_some]
   exact fin fun⟨h,_⟩=>hj h
structure StP (rs:List Zb) (top:Int) (r:List Int):Prop where
 asc:r.Pairwise (·<·)
 z:0∈r
 rng:∀ x∈r,0≤x∧x≤top
 cut:∀ y∈rs,y.Lo∈r∧(y.Hi + 1≤top→y.Hi + 1∈r)
 len:r.length≤2 * rs.length + 1
theorem Zyw {rs:List Zb} {top:Int} (hl:rs.length≤400000) (h0:0≤top) (h1:top<4294967296) (hr:∀ r∈rs,0≤r.Lo∧r.Lo≤r.Hi∧r.Hi≤top):Ok (Zf0 rs top) (StP rs top):=by
 unfold Zf0
 refine Ok.bind (p:=StP rs top) ?_ fun v hv=>Ok.ret hv
 refine Zw9 (L:=Zda rs top) rs (fun i s=>StP (rs.take i) top s) (by omega) (fun n s i hi hs k=>?_) (fun n s hs=>?_) _ ?_
 ·rw [Zda]
  have hy:=hr _ (List.getElem_mem hi)
  have ll:(rs.take i).length=i:=by rw [List.length_take]; omega
  have hsl:=hs.len
  simp only [show ((i:Int)<(rs.length:Int)) from by omega,decide_true,if_true,Zal hi,Option.bind_some,wsucc (by omega:i<1000000000001)]
  rw [if_pos (decide_eq_true hy.2.1),wu64 (x:=(rs[i]).Lo) (by omega) (by omega),wu64 (x:=(rs[i]).Hi) (by omega) (by omega),wu64 (by omega) (by omega)]
  refine Ok.bind (p:=StP (rs.take (i + 1)) top) ?_ fun v hv=>k v hv
  refine Ok.bind (Zt1 (by omega) hs.asc h0 h1) fun r1 g1=>Ok.bind (Zt1 (by have:=g1.len; omega) g1.asc h0 h1) fun r2 g2=>Ok.ret ⟨g2.asc,?_,fun x hx=>?_,fun y hy'=>?_,?_⟩
  ·exact(g2.mem 0).2 (Or.inl ((g1.mem 0).2 (Or.inl hs.z)))
  ·rcases (g2.mem x).1 hx with h | h
   ·rcases (g1.mem x).1 h with h | h
    ·exact hs.rng x h
    ·omega
   ·omega
  ·rw [List.take_add_one,List.getElem?_eq_getElem hi] at hy'
   rcases List.mem_append.1 hy' with h | h
   ·have:=hs.cut y h
    exact⟨(g2.mem _).2 (Or.inl ((g1.mem _).2 (Or.inl this.1))),fun hh=>(g2.mem _).2 (Or.inl ((g1.mem _).2 (Or.inl (this.2 hh))))⟩
   ·have h:y=rs[i]:=by simpa using h
    subst h
    exact⟨(g2.mem _).2 (Or.inl ((g1.mem _).2 (Or.inr ⟨rfl,by omega⟩))),fun hh=>(g2.mem _).2 (Or.inr ⟨rfl,hh⟩)⟩
  ·have:=g1.len
   have:=g2.len
   have:(rs.take (i + 1)).length=i + 1:=by rw [List.length_take]; omega
   omega
 ·rw [Zda,if_neg (by simp)]
  rw [List.take_length] at hs
  exact Ok.ret hs
 ·exact⟨List.pairwise_singleton ..,List.mem_singleton.2 rfl,fun x hx=>by rw [List.mem_singleton] at hx; omega,fun y hy=>(by cases hy),by simp⟩
theorem Zx6 {f:Nat} (hf:f<5) {l:List Bx} (hb:∀ x∈l,BOk x) {ss:List Int} (h:StP (l.map fun x=>x.get (f:Int)) (topOf (f:Int)) ss):Pts f l (ss++[topOf (f:Int) + 1]):=by
 have ht:=topN hf
 refine⟨List.pairwise_append.2 ⟨h.asc,List.pairwise_singleton ..,fun x hx y hy=>?_⟩,?_,List.getLast?_concat,fun b hb'=>?_,?_⟩
 ·rw [List.mem_singleton] at hy
  have:=h.rng x hx
  omega
 ·obtain⟨tl,e⟩:=Zvs h.asc h.z fun x hx=>(h.rng x hx).1
  exact⟨tl++[topOf (f:Int) + 1],by rw [e]; rfl⟩
 ·have hr:=(hb b hb').at_ hf
  have hc:=h.cut (b.get (f:Int)) (List.mem_map.2 ⟨b,hb',rfl⟩)
  refine⟨List.mem_append_left _ hc.1,?_⟩
  by_cases hh:(b.get (f:Int)).Hi + 1≤topOf (f:Int)
  ·exact List.mem_append_left _ (hc.2 hh)
  ·refine List.mem_append_right _ (List.mem_singleton.2 ?_)
   omega
 ·have:=h.len
  rw [List.length_map] at this
  rw [List.length_append,List.length_singleton]; omega
end Go.AM
set_option maxRecDepth 100000
namespace Go.AM
open Go
abbrev RL:=List Zb
theorem CF_len:∀(ts:List Int) {l:List RL},CF ts l→∀ b∈l,b.length=ts.length
 | [],l,h,b,hb=>by
  rcases h with rfl | rfl
  ·cases hb
  ·rw [List.mem_singleton] at hb; rw [hb]; rfl
 | t :: ts,l,⟨c,h1,h2,h3⟩,b,hb=>by
  subst h1
  obtain⟨x,hx,hb⟩:=List.mem_flatMap.1 hb
  obtain⟨b',hb',rfl⟩:=List.mem_map.1 hb
  rw [List.length_cons,List.length_cons,CF_len ts (h3 x hx) b' hb']
theorem Ord.len {t:Int}:∀ {c:List Cell},Ord t c→c.length≤(flt c).length
 | [],_=>Nat.le_refl _
 | x :: c,h=>by
  have hx:=(h.ok x (List.mem_cons_self ..)).2.2.2
  have:=Ord.len h.tail
  rw [Zdx,List.length_append,List.length_map,List.length_cons]
  have:0<x.2.length:=List.length_pos_iff.2 hx
  omega
theorem lk_le (c:List Cell) {t:Int} (h:Ord t c) (v:Int):(lk c v).length≤(flt c).length:=by
 by_cases hv:lk c v=[]
 ·rw [hv]; simp
 ·obtain⟨x,hx,h1,h2⟩:=Zkn hv
  rw [lk_mem h hx h1 h2]
  obtain⟨a,b,rfl⟩:=List.append_of_mem hx
  rw [Zeg,Zdx,List.length_append,List.length_append,List.length_map]
  omega
theorem Zl3 {f:Nat} (h:f≤5) {l l':List RL} (hl:∀ b∈l,b.length=5 - f) (hl':∀ b∈l',b.length=5 - f):l.map (pad f)=l'.map (pad f) ↔ l=l':=by
 constructor
 ·intro e
  have:=congrArg (List.map (sf f)) e
  rw [List.map_map,List.map_map] at this
  have h1:∀ {m:List RL},(∀ b∈m,b.length=5 - f)→m.map (sf f ∘ pad f)=m:=fun {m} hm=>by
   conv=>rhs; rw [← List.map_id m]
   exact List.map_congr_left fun b hb=>sf_pad h (hm b hb)
  rw [h1 hl,h1 hl'] at this
  exact this
 ·rintro rfl; rfl
def gr1 (f:Nat) (x:Cell):Zm:=⟨x.1,x.2.map (pad (f + 1))⟩
def gr (f:Nat) (c:List Cell):List Zm:=c.map (gr1 f)
theorem gr_len (f:Nat) (c:List Cell):(gr f c).length=c.length:=List.length_map _
theorem Zoh (f:Nat) (d:List Cell) (y:Cell):gr f (d++[y])=gr f d++[gr1 f y]:=by unfold gr; rw [List.map_append]; rfl
theorem Zz0 {α:Type} (l:List α) (x:α) (h:l.length≤1000000000):idx (l++[x]) (IntKind.wrap .i64 (((l++[x]).length:Int) - (1:Int)))=some x:=by
 rw [List.length_append,List.length_singleton,wi64 (by omega) (by omega),show ((l.length + 1:Nat):Int) - 1=((l.length:Nat):Int) by omega,Zal (by simp)]
 simp
theorem Zz1 {α:Type} (l:List α) (x y:α) (h:l.length≤1000000000):(l++[x]).set (Int.toNat (IntKind.wrap .i64 (((l++[x]).length:Int) - (1:Int)))) y=l++[y]:=by
 rw [List.length_append,List.length_singleton,wi64 (by omega) (by omega),show (((l.length + 1:Nat):Int) - 1).toNat=l.length by omega,List.set_append_right _ _ (Nat.le_refl _),Nat.sub_self]
 rfl
def capd (m:Nat) (f:Nat) (l:List RL):List Bx × Bool:=if l.length≤m then (l.map (pad f),true) else ([],false)
theorem Zt2 (c:List Cell) (lo hi:Int) (rest:List RL):rest.length≤(flt (joinC c lo hi rest)).length:=by
 unfold joinC
 split
 ·rename_i h; rw [h]; simp
 ·split
  ·split
   ·rw [Zeg,List.length_append,Zgg]; omega
   ·rw [Zeg,List.length_append,Zgg]; omega
  ·rw [Zeg,List.length_append,Zgg]; omega
theorem Zvv {f:Nat} (hf:f<5) {a b:List Bx} (ha:a.length≤2000000000) (hb:b.length≤2000000000) {m:Nat} (hm:m≤100000)
  {z0:Int→List Bx→List Bx→Int→Option (List Bx × Bool)} {ps:List Int} (hps:ps.length≤1000000) {g:Int→List RL} (hg:∀ v,∀ b∈g v,b.length=5 - (f + 1))
  (hz:∀ v,0≤v→v≤topOf (f:Int)→z0 ((f + 1:Nat):Int) (cov a f v) (cov b f v) (m:Int)=some (capd m (f + 1) (g v))) :
  ∀(rem:List Int) (p:Int) (i n:Nat) (c:List Cell),ps.drop i=p :: rem→rem.length<n→Upto g p c→Steps g (p :: rem)→0≤p→(∀ x∈p :: rem,x≤topOf (f:Int) + 1)→(flt c).length≤m →
  Zam (f:Int) a b (m:Int) z0 ps n (gr f c) ((flt c).length:Int) (i:Int) =
   some (if (flt (runC g c (p :: rem))).length≤m then .inl (gr f (runC g c (p :: rem)),((flt (runC g c (p :: rem))).length:Int)) else .inr ([],false)):=by
 intro rem
 induction rem with
 | nil=>
  intro p i n c hd hn hu hs hp ht hc
  cases n with
  | zero=>simp at hn
  | succ n=>
  have hi:ps.length=i + 1:=by
   have h1:=congrArg List.length hd
   rw [List.length_drop] at h1
   simp at h1; omega
  rw [Zam,wsucc (by omega),if_neg (by simp; omega)]
  unfold runC
  rw [if_pos hc]
 | cons q rem ih=>
  intro p i n c hd hn hu hs hp ht hc
  cases n with
  | zero=>simp at hn
  | succ n=>
  obtain⟨hpq,hgc,hs'⟩:=hs
  have htop:=topN hf
  have hqt:=ht q (by simp)
  have hpt:p≤topOf (f:Int):=by omega
  have hlen:i + 2≤ps.length:=by
   have h1:=congrArg List.length hd
   rw [List.length_drop] at h1
   simp at h1; omega
  have gi:∀ j,(ps.drop i)[j]? = ps[i + j]?:=fun j=>List.getElem?_drop
  have h0:idx ps (i:Int)=some p:=by
   have h1:=gi 0
   rw [hd,Nat.add_zero] at h1
   simp only [List.getElem?_cons_zero] at h1
   rw [Zal (by omega),← List.getElem?_eq_getElem,← h1]
  have h1:idx ps ((i + 1:Nat):Int)=some q:=by
   have h1:=gi 1
   rw [hd] at h1
   simp only [List.getElem?_cons_succ,List.getElem?_cons_zero] at h1
   rw [Zal (by omega),← List.getElem?_eq_getElem,← h1]
  have hd':ps.drop (i + 1)=q :: rem:=by rw [← List.drop_drop,hd]; rfl
  have e1:IntKind.wrap .u32 p=p:=wu32 hp (by omega)
  have e2:IntKind.wrap .u32 (IntKind.wrap .u64 (q - (1:Int)))=q - 1:=by rw [wu64 (by omega) (by omega),wu32 (by omega) (by omega)]
  have hu':=hu.step hp hpq hgc
  have key:=ih q (i + 1) n (joinC c p (q - 1) (g p)) hd' (by simp at hn; omega) hu' hs' (by omega) (fun x hx=>ht x (List.mem_cons_of_mem _ hx))
  have hrun:runC g c (p :: q :: rem)=runC g (joinC c p (q - 1) (g p)) (q :: rem):=rfl
  have hfin:=Zls g (q :: rem) (joinC c p (q - 1) (g p))
  have hjr:=Zt2 c p (q - 1) (g p)
  have hcl:=hu.ord.len
  rw [hrun]
  rw [Zam,wsucc (by omega),if_pos (by simp; omega),h0,h1]
  simp only [Option.bind_some,e1,e2]
  rw [Zpm ha (by omega) (by omega),Zpm hb (by omega) (by omega)]
  simp only [Option.bind_some]
  rw [wsucc (i:=f) (by omega),hz p hp hpt]
  simp only [Option.bind_some,capd]
  by_cases hgm:(g p).length≤m
  ·rw [if_pos hgm]
   simp only [Bool.not_true,Bool.false_eq_true,if_false,List.length_map]
   by_cases hg0:g p=[]
   ·have ej:joinC c p (q - 1) (g p)=c:=by unfold joinC; rw [if_pos hg0]
    rw [ej] at key ⊢
    rw [hg0]
    simp only [List.length_nil,Int.natCast_zero,beq_self_eq_true,if_true,Option.bind_some]
    exact key hc
   ·have hgl:0<(g p).length:=List.length_pos_iff.2 hg0
    rw [if_neg (show ¬ (((g p).length:Int) == (0:Int))=true by simp [hg0])]
    rcases List.eq_nil_or_concat c with rfl | ⟨d,y,rfl⟩
    ·
     have ej:joinC [] p (q - 1) (g p)=[(⟨p,q - 1⟩,g p)]:=by unfold joinC; rw [if_neg hg0]; rfl
     rw [ej] at key hfin ⊢
     rw [Zgg] at key hfin
     have e3:IntKind.wrap .i64 (((flt []).length:Int) + ((g p).length:Int))=((g p).length:Int):=by
      rw [show (flt []).length=0 from rfl,wi64 (by omega) (by omega)]; omega
     simp only [show gr f []=[] from rfl,List.length_nil,Int.natCast_zero,gt_iff_lt,Int.lt_irrefl,decide_false,Bool.false_eq_true,if_false,Option.bind_some,List.length_singleton,Nat.zero_add]
     rw [if_pos (show 1≤lim by unfold lim; omega)]
     simp only [show (flt []).length=0 from rfl,Int.natCast_zero] at e3 ⊢
     rw [e3,if_neg (show ¬ decide ((m:Int)<((g p).length:Int))=true by simp; omega)]
     simp only [Option.bind_some,List.nil_append]
     exact key hgm
    ·rw [List.concat_eq_append] at *
     have hgrl:(gr f d).length≤1000000000:=by rw [gr_len]; rw [List.length_append] at hcl; omega
     have hyo:=hu.ord.ok y (List.mem_append_right _ (List.mem_singleton.2 rfl))
     have hyg:∀ b∈y.2,b.length=5 - (f + 1):=by
      have h2:=hu.at_ y.1.Lo
      rw [lk_mem hu.ord (List.mem_append_right _ (List.mem_singleton.2 rfl)) (Int.le_refl _) hyo.2.1,if_pos (by omega)] at h2
      rw [h2]; exact hg _
     have hx2:idx (gr f (d++[y])) (IntKind.wrap .i64 (((gr f (d++[y])).length:Int) - (1:Int)))=some (gr1 f y):=by rw [Zoh]; exact Zz0 _ _ hgrl
     have hpos:decide (((gr f (d++[y])).length:Int) > 0)=true:=by rw [gr_len]; simp
     have e4:IntKind.wrap .u32 (y.1.Hi + (1:Int))=y.1.Hi + 1:=wu32 (by omega) (by omega)
     rw [hpos]
     simp only [Option.bind_some,if_true,hx2]
     rw [show (gr1 f y).f_values.Hi=y.1.Hi from rfl,e4,show (gr1 f y).f_rest=y.2.map (pad (f + 1)) from rfl]
     rw [Zvr (by rw [List.length_map]; rw [Zeg,List.length_append] at hc; obtain⟨yr,yrest⟩:=y; rw [Zgg] at hc; simp only at hc ⊢; omega)]
     have hmi:((y.2.map (pad (f + 1))=(g p).map (pad (f + 1))) ↔ y.2=g p):=Zl3 (by omega) hyg (hg p)
     simp only [hmi,Option.bind_some]
     have ej:joinC (d++[y]) p (q - 1) (g p)=if y.1.Hi + 1=p∧y.2=g p then d++[(⟨y.1.Lo,q - 1⟩,g p)] else (d++[y])++[(⟨p,q - 1⟩,g p)]:=by
      unfold joinC
      rw [if_neg hg0,List.getLast?_concat]
      simp only [List.dropLast_concat]
     by_cases hj:y.1.Hi + 1=p∧y.2=g p
     ·rw [if_pos hj] at ej
      rw [ej] at key hfin ⊢
      have hb1:(y.1.Hi + 1 == p)=true:=by simpa using hj.1
      rw [hb1]
      simp only [if_true,decide_eq_true hj.2,Option.bind_some]
      have e5:(flt (d++[(⟨y.1.Lo,q - 1⟩,g p)])).length=(flt (d++[y])).length:=by
       rw [Zeg,Zeg,List.length_append,List.length_append,Zgg]
       obtain⟨yr,yrest⟩:=y
       rw [Zgg]
       rw [← hj.2]
      rw [e5] at key hfin
      have e6:(gr f (d++[y])).set (Int.toNat (IntKind.wrap .i64 (((gr f (d++[y])).length:Int) - (1:Int)))) ({ gr1 f y with f_values:=({ (gr1 f y).f_values with Hi:=q - 1 }:Zb) }:Zm)=gr f (d++[(⟨y.1.Lo,q - 1⟩,g p)]):=by
       rw [Zoh,Zz1 _ _ _ hgrl,Zoh]
       rw [show (gr1 f (⟨y.1.Lo,q - 1⟩,g p))=({ gr1 f y with f_values:=({ (gr1 f y).f_values with Hi:=q - 1 }:Zb) }:Zm) by unfold gr1; rw [hj.2]]
      have e7:({ f_values:={ Lo:=(gr1 f y).f_values.Lo,Hi:=q - 1 },f_rest:=y.2.map (pad (f + 1)) }:Zm)=({ gr1 f y with f_values:=({ (gr1 f y).f_values with Hi:=q - 1 }:Zb) }:Zm):=rfl
      first | rw [e6] | (rw [e7,e6])
      exact key hc
     ·rw [if_neg hj] at ej
      rw [ej] at key hfin ⊢
      have e8:(flt (d++[y]++[(⟨p,q - 1⟩,g p)])).length=(flt (d++[y])).length + (g p).length:=by
       rw [Zeg,List.length_append,Zgg]
      rw [e8] at key hfin
      have e3:IntKind.wrap .i64 (((flt (d++[y])).length:Int) + ((g p).length:Int))=(((flt (d++[y])).length + (g p).length:Nat):Int):=by
       rw [wi64 (by omega) (by omega)]; omega
      have hcond:(if (y.1.Hi + 1 == p)=true then some (decide (y.2=g p)) else some false)=some false:=by
       by_cases h3:y.1.Hi + 1=p
       ·rw [if_pos (by simpa using h3),decide_eq_false fun h4=>hj ⟨h3,h4⟩]
       ·rw [if_neg (by simpa using h3)]
      rw [hcond]
      simp only [Option.bind_some,Bool.false_eq_true,if_false]
      rw [if_pos (show (gr f (d++[y])).length + [(Zm.mk (Zb.mk p (q - 1)) ((g p).map (pad (f + 1))))].length≤lim by rw [gr_len,List.length_singleton]; unfold lim; omega),e3]
      by_cases hsz:(flt (d++[y])).length + (g p).length≤m
      ·rw [if_neg (by simp; omega)]
       simp only [Option.bind_some]
       have:=key hsz
       rw [Zoh] at this
       exact this
      ·rw [if_pos (by simp; omega),if_neg (by omega)]
       rfl
  ·rw [if_neg hgm]
   simp only [Bool.not_false,if_true,Option.bind_some]
   rw [if_neg (by omega)]
end Go.AM
set_option maxRecDepth 100000
namespace Go.AM
open Go
theorem Zvw {f:Nat} (hf:f<5) (x:Cell) (hx:∀ b∈x.2,b.length=4 - f) (acc:List Bx) (hl:acc.length + x.2.length≤2000000000) :
  Zan (f:Int) (gr1 f x) fuel acc 0=some (acc++(x.2.map (x.1 :: ·)).map (pad f)):=by
 have hlen:(x.2.map (pad (f + 1))).length=x.2.length:=List.length_map _
 have:=Zfu (L:=Zan (f:Int) (gr1 f x)) (x.2.map (pad (f + 1))) (fun s _ y=>s++[Arr5.set y (f:Int) x.1]) id (fun i s=>s.length≤acc.length + i) (by omega) (fun n s i hi hs=>by
  rw [Zan]
  simp only [show (gr1 f x).f_rest=x.2.map (pad (f + 1)) from rfl,show (gr1 f x).f_values=x.1 from rfl,show ((i:Int)<((x.2.map (pad (f + 1))).length:Int)) from by omega,decide_true,if_true,Zal hi,Option.bind_some,wsucc (by omega:i<1000000000001),List.length_singleton]
  rw [if_pos ⟨by omega,by omega⟩,if_pos (show s.length + 1≤lim by unfold lim; omega)]
  exact⟨rfl,by simp; omega⟩) (fun n s hs=>by rw [Zan]; simp [show (gr1 f x).f_rest=x.2.map (pad (f + 1)) from rfl]) acc (by omega)
 rw [this.1,Zj9,List.map_map,List.map_map]
 simp only [id]
 congr 2
 exact List.map_congr_left fun b hb=>Zoe hf (hx b hb) x.1
theorem Zvx {f:Nat} (hf:f<5) (c:List Cell) (hc:∀ x∈c,∀ b∈x.2,b.length=4 - f) (hl:(flt c).length≤2000000000) (hcl:c.length≤2000000000) :
  Zah (f:Int) (gr f c) fuel [] 0=some ((flt c).map (pad f)):=by
 have e:∀(d:List Cell) (acc:List Bx) (i:Nat),foldI (fun(s:List Bx) _ (y:Cell)=>s++(y.2.map (y.1 :: ·)).map (pad f)) acc i d=acc++(flt d).map (pad f):=by
  intro d
  induction d with
  | nil=>intro acc i; simp [foldI,flt]
  | cons x d ih=>intro acc i; simp only [foldI]; rw [ih,Zdx,List.map_append,List.append_assoc]
 have:=Zfu (L:=Zah (f:Int) (gr f c)) c (fun s _ y=>s++(y.2.map (y.1 :: ·)).map (pad f)) id (fun i s=>s.length=(flt (c.take i)).length) (by omega) (fun n s i hi hs=>by
  have hi':i<(gr f c).length:=by rw [gr_len]; exact hi
  have hx:idx (gr f c) (i:Int)=some (gr1 f c[i]):=by rw [Zal hi']; exact congrArg some (List.getElem_map ..)
  have tk:flt (c.take (i + 1))=flt (c.take i)++(c[i].2.map (c[i].1 :: ·)):=by
   rw [List.take_add_one,List.getElem?_eq_getElem hi,Zeg]; simp [flt]
  have hle:(flt (c.take (i + 1))).length≤(flt c).length:=by
   conv=>rhs; rw [← List.take_append_drop (i + 1) c,Zeg,List.length_append]
   omega
  have hle2:(flt (c.take (i + 1))).length=(flt (c.take i)).length + (c[i]).2.length:=by rw [tk,List.length_append,List.length_map]
  rw [Zah]
  rw [if_pos (by rw [gr_len]; simp; omega),hx]
  simp only [Option.bind_some]
  rw [Zvw hf _ (hc _ (List.getElem_mem hi)) s (by omega)]
  simp only [Option.bind_some]
  rw [wsucc (by omega)]
  refine⟨rfl,?_⟩
  rw [List.length_append,List.length_map,List.length_map,hle2,hs]) (fun n s hs=>by rw [Zah]; simp [gr_len]) [] rfl
 rw [this.1,e]
 rfl
structure Canon (op:Bool→Bool→Bool) (C:Nat→Int→List Bx→List Bx→Int→Option (List Bx × Bool)):Prop where
 ff:op false false=false
 base:∀ nr a b m,C (nr + 1) 5 a b m=some (if op (decide ((a.length:Int) > 0)) (decide ((b.length:Int) > 0))=true then ([⟨zr,zr,zr,zr,zr⟩],true) else ([],true))
 step:∀ nr (f:Int) a b m,f ≠ 5→C (nr + 1) f a b m=if (IntKind.wrap .i64 ((a.length:Int) + (b.length:Int)) == (0:Int))=true then some ([],true) else
  (Ze4 f [a,b]).bind fun r12=>(Zam f a b m (C nr) r12 fuel [] 0 0).bind fun o=>match o with
   | .inl (v175,v176)=>if 0≤v176∧v176≤(lim:Int) then (Zah f v175 fuel [] 0).bind fun v=>some (v,true) else none
   | .inr r=>some r
theorem mS5 (a:List Bx):mS (a.map (sf 5)) []=decide ((a.length:Int) > 0):=by
 cases a with
 | nil=>rfl
 | cons b a=>
  have:decide (((b :: a).length:Int) > 0)=true:=by simp
  rw [this]
  show (mB (sf 5 b) [] || mS (a.map (sf 5)) [])=true
  rfl
theorem BOk.all {a:List Bx} (h:∀ x∈a,BOk x) (f v:Int):∀ x∈cov a f v,BOk x:=fun x hx=>h x (Z0x hx)
theorem level {op:Bool→Bool→Bool} {f:Nat} (hf:f<5) {a b:List Bx} {c:List Cell} {ps:List Int} (hps:Pts f (a++b) ps) (hL:Is op (topOf (f:Int) :: tops5.drop (f + 1)) (a.map (sf f)) (b.map (sf f)) (flt c)) (ho:Ord (topOf (f:Int)) c) (hc:∀ x∈c,CF (tops5.drop (f + 1)) x.2) :
  (∃ tl,ps=0 :: tl∧Steps (lk c) (0 :: tl)∧runC (lk c) [] (0 :: tl)=c)∧(∀ v,∀ b∈lk c v,b.length=4 - f) ∧
  ∀ v,0≤v→v≤topOf (f:Int)→Is op (tops5.drop (f + 1)) ((cov a f v).map (sf (f + 1))) ((cov b f v).map (sf (f + 1))) (lk c v):=by
 have hat:∀ v,0≤v→v≤topOf (f:Int)→Is op (tops5.drop (f + 1)) (atv (a.map (sf f)) v) (atv (b.map (sf f)) v) (lk c v):=fun v h0 h1=>Is.at_ ho hc hL h0 h1
 obtain⟨tl,rfl⟩:=hps.h0
 have hrng:∀ x∈(0:Int) :: tl,x≤topOf (f:Int) + 1:=by
  obtain⟨ys,hy⟩:=List.getLast?_eq_some_iff.1 hps.hl
  intro x hx
  have hp:=hps.asc
  rw [hy] at hx hp
  rcases List.mem_append.1 hx with h | h
  ·have:=(List.pairwise_append.1 hp).2.2 x h _ (List.mem_singleton.2 rfl); omega
  ·rw [List.mem_singleton] at h; omega
 have hcut:∀ l:List Bx,(∀ x∈l,x∈a++b)→Cut ((0:Int) :: tl) (l.map (sf f)):=by
  intro l hl x hx r b' e
  obtain⟨z,hz,rfl⟩:=List.mem_map.1 hx
  rw [Zg5 hf,List.cons.injEq] at e
  rw [← e.1]
  exact hps.cut z (hl z hz)
 have hsteps:Steps (lk c) (0 :: tl):=by
  refine Zvl (List.cons_ne_nil _ _) hps.asc fun i h v h1 h2=>?_
  have hx:=Zuj hps.asc h
  have hm:=List.pairwise_iff_getElem.1 hps.asc
  have h0i:0≤((0:Int) :: tl)[i]:=by
   rcases Nat.eq_zero_or_pos i with rfl | hi
   ·exact Int.le_refl _
   ·exact Int.le_of_lt (hm 0 i (by simp) (by omega) hi)
  have hti:=hrng _ (List.getElem_mem h)
  have key:∀ {l:List RL},Cut ((0:Int) :: tl) l→atv l v=atv l ((0:Int) :: tl)[i]:=fun hl=>
   Zzn (fun b hb r b' e=>⟨hx _ (hl b hb r b' e).1,hx _ (hl b hb r b' e).2⟩) h1 h2
  have g1:=hat v (by omega) (by omega)
  rw [key (hcut a fun x hx=>List.mem_append_left _ hx),key (hcut b fun x hx=>List.mem_append_right _ hx)] at g1
  exact g1.inj (hat _ h0i (by omega))
 refine⟨⟨tl,rfl,hsteps,Z0s hsteps hps.hl ho fun v _ _=>rfl⟩,fun v b' hb'=>?_,fun v h0 h1=>by rw [Zxe hf,Zxe hf]; exact hat v h0 h1⟩
 have:=CF_len _ (CF_lk ho hc v) b' hb'
 rw [this,List.length_drop]
 show 5 - (f + 1)=4 - f
 omega
theorem Zz2 {op:Bool→Bool→Bool} {C:Nat→Int→List Bx→List Bx→Int→Option (List Bx × Bool)} (hC:Canon op C) {m:Nat} (hm1:1≤m) (hm:m≤100000):∀(k f nr:Nat) (a b:List Bx) (l:List RL),f + k=5→k<nr→a.length + b.length≤400000→(∀ x∈a,BOk x)→(∀ x∈b,BOk x) →
  Is op (tops5.drop f) (a.map (sf f)) (b.map (sf f)) l→C nr (f:Int) a b (m:Int)=some (capd m f l):=by
 intro k
 induction k with
 | zero=>
  intro f nr a b l hf hn hl ha hb hL
  have hf:f=5:=by omega
  subst hf
  cases nr with
  | zero=>omega
  | succ nr=>
  have h1:=hL.mem [] trivial
  rw [mS5,mS5] at h1
  rw [show ((5:Nat):Int)=5 from rfl,hC.base,← h1]
  rcases hL.cf with rfl | rfl
  ·rfl
  ·rw [if_pos (show mS [[]] []=true from rfl)]
   unfold capd
   rw [if_pos (show ([[]]:List RL).length≤m from hm1)]
   rfl
 | succ k ih=>
  intro f nr a b l hf hn hl ha hb hL
  have hf5:f<5:=by omega
  cases nr with
  | zero=>omega
  | succ nr=>
  rw [Zh2 hf5] at hL
  rw [hC.step nr (f:Int) a b _ (by omega)]
  rw [wi64 (by omega) (by omega)]
  by_cases h0:a.length + b.length=0
  ·rw [if_pos (by simp; omega)]
   have ha0:a=[]:=List.length_eq_zero_iff.1 (by omega)
   have hb0:b=[]:=List.length_eq_zero_iff.1 (by omega)
   subst ha0 hb0
   have:l=[]:=hL.inj ⟨CF_nil _,fun p hp=>by simp [mS,hC.ff]⟩
   rw [this]
   rfl
  ·rw [if_neg (by simp; omega)]
   obtain⟨ps,hp1,hp2⟩:=Z0z hf5 hl ha hb
   rw [hp1]
   simp only [Option.bind_some]
   obtain⟨c,rfl,ho,hc⟩:=hL.cf
   obtain⟨⟨tl,rfl,hs,hr⟩,hg,hz⟩:=level hf5 hp2 hL ho hc
   have hlen:=hp2.len
   rw [List.length_append] at hlen
   have hrng:∀ x∈(0:Int) :: tl,x≤topOf (f:Int) + 1:=by
    obtain⟨ys,hy⟩:=List.getLast?_eq_some_iff.1 hp2.hl
    intro x hx
    have hp:=hp2.asc
    rw [hy] at hx hp
    rcases List.mem_append.1 hx with h | h
    ·have:=(List.pairwise_append.1 hp).2.2 x h _ (List.mem_singleton.2 rfl); omega
    ·rw [List.mem_singleton] at h; omega
   have hmain:=Zvv hf5 (a:=a) (b:=b) (by omega) (by omega) (m:=m) hm (z0:=C nr) (ps:=0 :: tl) (by omega) (g:=lk c) (fun v b' hb'=>by rw [hg v b' hb']; omega) (fun v h0 h1=>by
    refine ih (f + 1) nr _ _ _ (by omega) (by omega) ?_ (BOk.all ha _ _) (BOk.all hb _ _) (hz v h0 h1)
    have:=Zog a (f:Int) v
    have:=Zog b (f:Int) v
    omega) tl 0 0 fuel [] rfl (by unfold fuel; simp only [List.length_cons] at hlen; omega) (Upto.nil _) hs (Int.le_refl _) hrng (Nat.zero_le _)
   rw [show gr f []=[] from rfl,show (flt []).length=0 from rfl,show ((0:Nat):Int)=0 from rfl,hr] at hmain
   rw [hmain]
   simp only [Option.bind_some]
   unfold capd
   have hcl:=ho.len
   by_cases hm2:(flt c).length≤m
   ·rw [if_pos hm2,if_pos hm2]
    simp only
    rw [if_pos ⟨by omega,by unfold lim; omega⟩,Zvx hf5 c (fun x hx b' hb'=>by
     have h2:=ho.ok x hx
     have:=hg x.1.Lo b' (by rw [lk_mem ho hx (Int.le_refl _) h2.2.1]; exact hb')
     exact this) (by omega) (by omega)]
    rfl
   ·rw [if_neg hm2,if_neg hm2]
theorem Zvy:Canon (fun x y=>x || y) Zaf:=by
 refine⟨rfl,fun nr a b m=>?_,fun nr f a b m hf=>?_⟩
 ·rw [Zaf,if_pos (by decide)]
  unfold Zec
  simp only [Option.bind_some]
  split <;> rfl
 ·rw [Zaf,if_neg (by simpa using hf)]
  unfold Zec
  simp only [Option.bind_some,Bool.or_self,Bool.not_false]
  cases (IntKind.wrap .i64 ((a.length:Int) + (b.length:Int)) == (0:Int)) <;> rfl
end Go.AM
set_option maxRecDepth 100000
namespace Go.AM
open Go
def opc (k:Int) (x y:Bool):Bool:=if k=0 then x || y else if k=1 then x && y else if k=2 then x && !y else !(x == y)
theorem Zz3 (k:Int) (x y:Bool):Zgh k x y=some (opc k x y):=by
 unfold Zgh opc
 simp only [Option.bind_some,beq_iff_eq]
 split
 ·rfl
 ·split
  ·rfl
  ·split <;> rfl
theorem opc_ff (k:Int):opc k false false=false:=by
 unfold opc
 split
 ·rfl
 ·split
  ·rfl
  ·split <;> rfl
theorem Z01 (k:Int) (x y:Bool):∃ r,Zg3 k x y=some r∧(r=true→∀ u w,(x=false→u=false)→(y=false→w=false)→opc k u w=false):=by
 unfold Zg3 opc
 simp only [Option.bind_some,beq_iff_eq]
 by_cases h1:k=1
 ·subst h1
  refine⟨_,if_pos rfl,fun h u w hu hw=>?_⟩
  simp only [show ¬ (1:Int)=0 by decide,if_false,if_true]
  cases x
  ·rw [hu rfl]; rfl
  ·cases y
   ·rw [hw rfl]; simp
   ·cases h
 ·rw [if_neg h1]
  by_cases h2:k=2
  ·subst h2
   refine⟨_,if_pos rfl,fun h u w hu _=>?_⟩
   simp only [show ¬ (2:Int)=0 by decide,show ¬ (2:Int)=1 by decide,if_false,if_true]
   cases x
   ·rw [hu rfl]; rfl
   ·cases h
  ·rw [if_neg h2]
   refine⟨_,rfl,fun h u w hu hw=>?_⟩
   rw [if_neg h1,if_neg h2]
   cases x <;> cases y <;> simp at h
   rw [hu rfl,hw rfl]
   split <;> rfl
theorem Zwp {f:Nat} (hf:f<5) {e:Int} (h0:0≤e) (h1:e<4294967296):∀(k j n:Nat) (v:List Bx),v.length - j=k→k<n→j≤v.length→v.length≤2000000000 →
  Zdd (f:Int) e n v (j:Int)=some (v.take j++(v.drop j).map fun x=>x.set (f:Int) ({ (x.get (f:Int)) with Hi:=e }:Zb)):=by
 intro k
 induction k with
 | zero=>
  intro j n v hk hn hj hl
  cases n with
  | zero=>omega
  | succ n=>
  rw [Zdd,if_neg (by simp; omega),List.take_of_length_le (by omega),List.drop_eq_nil_of_le (by omega)]
  simp
 | succ k ih=>
  intro j n v hk hn hj hl
  cases n with
  | zero=>omega
  | succ n=>
  have hjl:j<v.length:=by omega
  rw [Zdd,if_pos (by simp; omega),Zal hjl]
  simp only [Option.bind_some,Int.toNat_natCast]
  rw [if_pos ⟨by omega,by omega⟩,wu32 h0 h1,wsucc (by omega),ih (j + 1) n _ (by rw [List.length_set]; omega) (by omega) (by rw [List.length_set]; omega) (by rw [List.length_set]; exact hl)]
  rw [List.drop_set_of_lt (by omega),List.take_add_one,List.getElem?_eq_getElem (by rw [List.length_set]; exact hjl),List.getElem_set_self,List.take_set_of_le (Nat.le_refl _),List.drop_eq_getElem_cons hjl,List.map_cons,List.append_assoc]
  rfl
theorem Zpo {f:Nat} (hf:f<5) {r10:List Int} {i:Nat} {p e:Int} (hp:idx r10 (i:Int)=some p) (hp0:0≤p) (hp1:p<4294967296) (h0:0≤e) (h1:e<4294967296) (rest:List RL) (hr:∀ b∈rest,b.length=4 - f) (acc:List Bx) (hl:acc.length + rest.length≤2000000000) :
  Zcv (f:Int) r10 (i:Int) e (rest.map (pad (f + 1))) fuel acc 0=some (acc++(rest.map ((⟨p,e⟩:Zb) :: ·)).map (pad f)):=by
 have hlen:(rest.map (pad (f + 1))).length=rest.length:=List.length_map _
 have:=Zfu (L:=Zcv (f:Int) r10 (i:Int) e (rest.map (pad (f + 1)))) (rest.map (pad (f + 1))) (fun s _ y=>s++[Arr5.set y (f:Int) ⟨p,e⟩]) id (fun i s=>s.length≤acc.length + i) (by omega) (fun n s j hj hs=>by
  rw [Zcv]
  simp only [show ((j:Int)<((rest.map (pad (f + 1))).length:Int)) from by omega,decide_true,if_true,Zal hj,hp,Option.bind_some,wsucc (by omega:j<1000000000001),List.length_singleton,wu32 hp0 hp1,wu32 h0 h1]
  rw [if_pos ⟨by omega,by omega⟩,if_pos (show s.length + 1≤lim by unfold lim; omega)]
  exact⟨rfl,by simp; omega⟩) (fun n s hs=>by rw [Zcv]; simp) acc (by omega)
 rw [this.1,Zj9,List.map_map,List.map_map]
 simp only [id]
 congr 2
 exact List.map_congr_left fun b hb=>Zoe hf (hr b hb) _
theorem Zyx {g:Int→List RL} {p q:Int} {c:List Cell} (hu:Upto g p c) (hg0:g p ≠ []):joinC c p q (g p) =
  if 0<p∧g (p - 1)=g p then match c.getLast? with
   | some y=>c.dropLast++[(⟨y.1.Lo,q⟩,g p)]
   | none=>c++[(⟨p,q⟩,g p)]
  else c++[(⟨p,q⟩,g p)]:=by
 unfold joinC
 rw [if_neg hg0]
 cases hl:c.getLast? with
 | none=>simp
 | some y=>
  obtain⟨d,rfl⟩:=List.getLast?_eq_some_iff.1 hl
  have hy:=hu.ord.ok y (List.mem_append_right _ (List.mem_singleton.2 rfl))
  simp only
  by_cases hj:y.1.Hi + 1=p∧y.2=g p
  ·rw [if_pos hj]
   have h1:=hu.at_ y.1.Hi
   rw [lk_mem hu.ord (List.mem_append_right _ (List.mem_singleton.2 rfl)) hy.2.1 (Int.le_refl _),if_pos (by omega)] at h1
   rw [if_pos ⟨by omega,by rw [show p - 1=y.1.Hi by omega,← h1,hj.2]⟩]
  ·rw [if_neg hj,if_neg]
   rintro⟨h1,h2⟩
   have h3:=hu.at_ (p - 1)
   rw [if_pos (by omega),h2] at h3
   obtain⟨x,hx,h4,h5⟩:=Zkn (c:=d++[y]) (v:=p - 1) (by rw [h3]; exact hg0)
   have hxo:=hu.ord.ok x hx
   rw [lk_mem hu.ord hx h4 h5] at h3
   rcases List.mem_append.1 hx with hxd | hxd
   ·have:=((List.pairwise_append.1 hu.ord.pw).2.2 x hxd y (List.mem_singleton.2 rfl)).1
    omega
   ·rw [List.mem_singleton] at hxd
    subst hxd
    exact hj ⟨by omega,h3⟩
theorem set_set {f:Nat} (b:Bx) (r s:Zb):(b.set (f:Int) r).set (f:Int) s=b.set (f:Int) s:=by
 unfold Arr5.set
 split
 ·rfl
 ·split
  ·rfl
  ·split
   ·rfl
   ·split <;> rfl
theorem Z02 (c:List Cell) (p q:Int) (g:Int→List RL):(g p).length≤(flt (joinC c p (q - 1) (g p))).length:=Zt2 c p (q - 1) (g p)
theorem Zwq {f:Nat} (hf:f<5) {a b:List Bx} (ha:a.length≤2000000000) (hb:b.length≤2000000000) (hai:∀ x∈a,BIn x) (hbi:∀ x∈b,BIn x) {k:Int}
  {z0:List Bx→List Bx→Int→Int→Option (List Bx)} {ss:List Int} (hss:ss.length≤1000000) {g:Int→List RL} (hg:∀ v,∀ b∈g v,b.length=5 - (f + 1))
  (hz:∀ v,0≤v→v≤topOf (f:Int)→z0 (cov a f v) (cov b f v) k ((f + 1:Nat):Int)=some ((g v).map (pad (f + 1)))) :
  ∀(rem:List Int) (p:Int) (i n:Nat) (c:List Cell) (last:List Bx),(ss++[topOf (f:Int) + 1]).drop i=p :: rem→rem.length<n→Upto g p c→Steps g (p :: rem)→0≤p→(i=0 ↔ p=0)→(0<p→last=(g (p - 1)).map (pad (f + 1)))→(flt (runC g c (p :: rem))).length≤2000000000 →
  Zde a b k (f:Int) z0 ss n ((flt c).map (pad f)) last (i:Int)=some ((flt (runC g c (p :: rem))).map (pad f)):=by
 intro rem
 induction rem with
 | nil=>
  intro p i n c last hd hn hu hs hp hi0 hlast hc
  cases n with
  | zero=>simp at hn
  | succ n=>
  have hi:ss.length=i:=by
   have h1:=congrArg List.length hd
   rw [List.length_drop,List.length_append] at h1
   simp at h1; omega
  rw [Zde,if_neg (by simp; omega)]
  rfl
 | cons q rem ih=>
  intro p i n c last hd hn hu hs hp hi0 hlast hc
  cases n with
  | zero=>simp at hn
  | succ n=>
  obtain⟨hpq,hgc,hs'⟩:=hs
  have htop:=topN hf
  have hlen:i + 1≤ss.length:=by
   have h1:=congrArg List.length hd
   rw [List.length_drop,List.length_append] at h1
   simp at h1; omega
  have gi:∀ j,((ss++[topOf (f:Int) + 1]).drop i)[j]? = (ss++[topOf (f:Int) + 1])[i + j]?:=fun j=>List.getElem?_drop
  have h0:idx ss (i:Int)=some p:=by
   have h1:=gi 0
   rw [hd,Nat.add_zero,List.getElem?_append_left (by omega)] at h1
   simp only [List.getElem?_cons_zero] at h1
   rw [Zal (by omega),← List.getElem?_eq_getElem,← h1]
  have hd':(ss++[topOf (f:Int) + 1]).drop (i + 1)=q :: rem:=by rw [← List.drop_drop,hd]; rfl
  have hasc:∀(l:List Int) (x:Int),Steps g (x :: l)→∀ y,(x :: l).getLast? = some y→x≤y:=by
   intro l
   induction l with
   | nil=>intro x _ y hy; simp at hy; omega
   | cons z l ih2=>
    intro x hx y hy
    rw [List.getLast?_cons_cons] at hy
    have:=ih2 z hx.2.2 y hy
    have:=hx.1
    omega
  have hqt:q≤topOf (f:Int) + 1:=by
   refine hasc rem q hs' _ ?_
   rw [← hd',List.getLast?_drop,if_neg (by rw [List.length_append]; simp; omega),List.getLast?_concat]
  have hpt:p≤topOf (f:Int):=by omega
  have hend:(if (decide ((IntKind.wrap .i64 ((i:Int) + (1:Int)))<(List.length ss:Int)))=true then
    (idx ss (IntKind.wrap .i64 ((i:Int) + (1:Int)))).bind fun(x486:Int)=>
    some (IntKind.wrap .u64 (x486 - (1:Int)))
   else
    some (IntKind.wrap .u64 (topOf (f:Int))))=some (q - 1):=by
   rw [wsucc (by omega)]
   have h1:=gi 1
   rw [hd] at h1
   simp only [List.getElem?_cons_succ,List.getElem?_cons_zero] at h1
   by_cases hi2:i + 1<ss.length
   ·rw [if_pos (by simp; omega)]
    rw [List.getElem?_append_left hi2,List.getElem?_eq_getElem hi2,Option.some.injEq] at h1
    rw [Zal hi2,← h1]
    simp only [Option.bind_some]
    rw [wu64 (by omega) (by omega)]
   ·rw [if_neg (by simp; omega)]
    rw [List.getElem?_append_right (by omega),show i + 1 - ss.length=0 by omega] at h1
    simp only [List.getElem?_cons_zero,Option.some.injEq] at h1
    rw [wu64 (by omega) (by omega),h1]
    congr 1
    omega
  have e1:IntKind.wrap .u32 p=p:=wu32 hp (by omega)
  have hu':=hu.step hp hpq hgc
  have hq1:g (q - 1)=g p:=hgc _ (by omega) (by omega)
  have hrun:runC g c (p :: q :: rem)=runC g (joinC c p (q - 1) (g p)) (q :: rem):=rfl
  rw [hrun] at hc ⊢
  have hfin:=Zls g (q :: rem) (joinC c p (q - 1) (g p))
  have key:=ih q (i + 1) n (joinC c p (q - 1) (g p)) ((g p).map (pad (f + 1))) hd' (by simp at hn; omega) hu' hs' (by omega) (by omega) (fun _=>by rw [hq1]) hc
  rw [Zde,if_pos (by simp; omega),Top_eq _ (by omega) (by omega)]
  simp only [Option.bind_some,hend,h0]
  rw [at_eq ha (by omega) (by omega) _ hai,at_eq hb (by omega) (by omega) _ hbi]
  simp only [Option.bind_some]
  rw [wsucc (i:=f) (by omega),hz p hp hpt]
  simp only [Option.bind_some,List.length_map]
  by_cases hg0:g p=[]
  ·have ej:joinC c p (q - 1) (g p)=c:=by unfold joinC; rw [if_pos hg0]
   rw [ej] at key ⊢
   rw [hg0]
   have h3:=Zpo hf h0 hp (by omega) (e:=q - 1) (by omega) (by omega) [] (fun _ h=>(by cases h)) ((flt c).map (pad f)) (by
    have:=Zls g (q :: rem) c
    rw [ej] at hfin hc
    rw [List.length_map]; simp; omega)
   simp only [List.map_nil,List.append_nil] at h3
   have hb2:(decide ((i:Int) > 0) && decide (((([]:List RL).length:Nat):Int) > 0))=false:=by simp
   rw [hb2]
   simp only [Bool.false_eq_true,if_false,Option.bind_some,List.map_nil,h3]
   rw [wsucc (by omega)]
   rw [hg0] at key
   exact key
  ·have hgl:0<(g p).length:=List.length_pos_iff.2 hg0
   have hj:=Zyx (q:=q - 1) hu hg0
   have hb2:(decide ((i:Int) > 0) && decide (((g p).length:Int) > 0))=decide (0<p):=by
    rw [Bool.eq_iff_iff]; simp; omega
   rw [hb2]
   by_cases hjj:0<p∧g (p - 1)=g p
   ·rw [if_pos hjj] at hj
    rw [hlast hjj.1,hjj.2,decide_eq_true hjj.1]
    simp only [if_true]
    rw [Zxd (by rw [List.length_map]; have:=Z02 c p q g; omega)]
    simp only [decide_true,Option.bind_some,if_true]
    have h3:=hu.at_ (p - 1)
    rw [if_pos (by omega),hjj.2] at h3
    cases hl:c.getLast? with
    | none=>
     rw [List.getLast?_eq_none_iff] at hl
     subst hl
     exact absurd h3.symm hg0
    | some y=>
     rw [hl] at hj
     obtain⟨d,rfl⟩:=List.getLast?_eq_some_iff.1 hl
     simp only [List.dropLast_concat] at hj
     rw [hj] at key hfin hc ⊢
     have hy2:y.2=g p:=by
      have hjo:=hj
      unfold joinC at hjo
      rw [if_neg hg0,List.getLast?_concat] at hjo
      simp only [List.dropLast_concat] at hjo
      split at hjo
      ·rename_i hh; exact hh.2
      ·have:=congrArg List.length hjo
       simp at this
     have hyr:∀ b∈y.2,b.length=4 - f:=fun b hb=>by rw [hy2] at hb; have:=hg p b hb; omega
     have hfl:flt (d++[y])=flt d++y.2.map (y.1 :: ·):=by rw [Zeg]; simp [flt]
     have hfl2:flt (d++[((⟨y.1.Lo,q - 1⟩:Zb),g p)])=flt d++(g p).map ((⟨y.1.Lo,q - 1⟩:Zb) :: ·):=by rw [Zeg]; simp [flt]
     have hlen2:(flt (d++[y])).length=(flt d).length + (g p).length:=by rw [hfl,List.length_append,List.length_map,hy2]
     have hlen3:(flt (d++[((⟨y.1.Lo,q - 1⟩:Zb),g p)])).length=(flt d).length + (g p).length:=by rw [hfl2,List.length_append,List.length_map]
     rw [hlen3] at hfin
     rw [hlen2,wi64 (by omega) (by omega),show (((flt d).length + (g p).length:Nat):Int) - ((g p).length:Int)=(((flt d).length:Nat):Int) by omega]
     rw [Zwp hf (by omega) (by omega) _ _ fuel _ rfl (by rw [List.length_map,hlen2]; unfold fuel; omega) (by rw [List.length_map,hlen2]; omega) (by rw [List.length_map,hlen2]; omega)]
     simp only [Option.bind_some]
     rw [wsucc (by omega)]
     have e9:((flt (d++[y])).map (pad f)).take (flt d).length++(((flt (d++[y])).map (pad f)).drop (flt d).length).map (fun x=>x.set (f:Int) ({ (x.get (f:Int)) with Hi:=q - 1 }:Zb))=(flt (d++[((⟨y.1.Lo,q - 1⟩:Zb),g p)])).map (pad f):=by
      rw [hfl,hfl2,List.map_append,List.take_left' (by rw [List.length_map]),List.drop_left' (by rw [List.length_map]),List.map_append,hy2,List.map_map,List.map_map,List.map_map]
      congr 1
      refine List.map_congr_left fun b hb=>?_
      have hb4:b.length=4 - f:=hyr b (by rw [hy2]; exact hb)
      have hsf:sf f (pad f (y.1 :: b))=y.1 :: b:=sf_pad (by omega) (by rw [List.length_cons]; omega)
      show (pad f (y.1 :: b)).set (f:Int) ({ ((pad f (y.1 :: b)).get (f:Int)) with Hi:=q - 1 }:Zb)=pad f (⟨y.1.Lo,q - 1⟩ :: b)
      have hget:(pad f (y.1 :: b)).get (f:Int)=y.1:=by
       rw [Zg5 hf,List.cons.injEq] at hsf
       exact hsf.1
      rw [hget,← Zoe hf hb4 y.1,set_set,Zoe hf hb4]
     rw [e9]
     have:=key
     exact this
   ·rw [if_neg hjj] at hj
    rw [hj] at key hfin hc ⊢
    have hfl2:flt (c++[((⟨p,q - 1⟩:Zb),g p)])=flt c++(g p).map ((⟨p,q - 1⟩:Zb) :: ·):=by rw [Zeg]; simp [flt]
    have hlen3:(flt (c++[((⟨p,q - 1⟩:Zb),g p)])).length=(flt c).length + (g p).length:=by rw [hfl2,List.length_append,List.length_map]
    rw [hlen3] at hfin
    have hcond:(if decide (0<p)=true then (Zfv ((g p).map (pad (f + 1))) last).bind fun(r503:Bool)=>some r503 else some false)=some false:=by
     by_cases h3:0<p
     ·rw [if_pos (decide_eq_true h3),hlast h3,Zxd (by rw [List.length_map]; omega)]
      simp only [Option.bind_some]
      rw [decide_eq_false]
      intro he
      exact hjj ⟨h3,((Zl3 (by omega) (hg p) (hg (p - 1))).1 he).symm⟩
     ·rw [if_neg (by simpa using h3)]
    rw [hcond]
    simp only [Option.bind_some,Bool.false_eq_true,if_false]
    rw [Zpo hf h0 hp (by omega) (e:=q - 1) (by omega) (by omega) (g p) (fun b hb=>by have:=hg p b hb; omega) ((flt c).map (pad f)) (by rw [List.length_map]; omega)]
    simp only [Option.bind_some]
    rw [wsucc (by omega)]
    rw [hfl2,List.map_append] at key
    exact key
end Go.AM
set_option maxRecDepth 100000
namespace Go.AM
open Go
theorem Zz4 {k:Int}:∀(j f nr:Nat) (a b:List Bx) (l:List RL),f + j=5→j<nr→a.length + b.length≤400000→(∀ x∈a,BOk x)→(∀ x∈b,BOk x) →
  Is (opc k) (tops5.drop f) (a.map (sf f)) (b.map (sf f)) l→l.length≤2000000000→Zbp nr a b k (f:Int)=some (l.map (pad f)):=by
 intro j
 induction j with
 | zero=>
  intro f nr a b l hf hn hl ha hb hL hlen
  have hf:f=5:=by omega
  subst hf
  cases nr with
  | zero=>omega
  | succ nr=>
  have h1:=hL.mem [] trivial
  rw [mS5,mS5] at h1
  rw [show ((5:Nat):Int)=5 from rfl,Zbp,if_pos (by decide),Zz3]
  simp only [Option.bind_some]
  rw [← h1]
  rcases hL.cf with rfl | rfl
  ·rfl
  ·rfl
 | succ j ih=>
  intro f nr a b l hf hn hl ha hb hL hlen
  have hf5:f<5:=by omega
  cases nr with
  | zero=>omega
  | succ nr=>
  rw [Zh2 hf5] at hL
  rw [Zbp,if_neg (by simp; omega)]
  obtain⟨r,hr1,hr2⟩:=Z01 k (decide ((a.length:Int) > 0)) (decide ((b.length:Int) > 0))
  rw [hr1]
  simp only [Option.bind_some]
  cases r with
  | true=>
   rw [if_pos rfl]
   have:l=[]:=by
    refine hL.inj ⟨CF_nil _,fun p hp=>?_⟩
    rw [mS_nil]
    refine(hr2 rfl _ _ (fun h=>?_) (fun h=>?_)).symm
    ·have:a=[]:=List.length_eq_zero_iff.1 (by simp at h; simp [h])
     subst this; rfl
    ·have:b=[]:=List.length_eq_zero_iff.1 (by simp at h; simp [h])
     subst this; rfl
   rw [this]
   rfl
  | false=>
   rw [if_neg (by simp)]
   rw [Zyv hf5 hl]
   simp only [Option.bind_some]
   rw [Top_eq _ (by omega) (by omega)]
   simp only [Option.bind_some]
   have hab:∀ x∈a++b,BOk x:=fun x hx=>(List.mem_append.1 hx).elim (ha x) (hb x)
   obtain⟨ss,hs1,hs2⟩:=Zyw (rs:=(a++b).map fun x=>x.get (f:Int)) (top:=topOf (f:Int)) (by rw [List.length_map,List.length_append]; exact hl) (topN hf5).1 (by have:=topN hf5; omega) (fun y hy=>by
    obtain⟨x,hx,rfl⟩:=List.mem_map.1 hy
    exact(hab x hx).at_ hf5)
   rw [hs1]
   simp only [Option.bind_some]
   have hps:=Zx6 hf5 hab hs2
   obtain⟨c,rfl,ho,hc⟩:=hL.cf
   obtain⟨⟨tl,he,hst,hr⟩,hg,hz⟩:=level hf5 hps hL ho hc
   have hlen2:=hs2.len
   rw [List.length_map,List.length_append] at hlen2
   have hmain:=Zwq hf5 (a:=a) (b:=b) (by omega) (by omega) (fun x hx=>(ha x hx).bin) (fun x hx=>(hb x hx).bin) (k:=k) (z0:=Zbp nr) (ss:=ss) (by omega) (g:=lk c) (fun v b' hb'=>by rw [hg v b' hb']; omega) (fun v h0 h1=>by
    refine ih (f + 1) nr _ _ _ (by omega) (by omega) ?_ (BOk.all ha _ _) (BOk.all hb _ _) (hz v h0 h1) ?_
    ·have:=Zog a (f:Int) v
     have:=Zog b (f:Int) v
     omega
    ·have:=lk_le c ho v; omega) tl 0 0 fuel [] [] (by rw [he]; rfl) (by
     have:=congrArg List.length he
     rw [List.length_append] at this
     simp at this
     unfold fuel; omega) (Upto.nil _) hst (Int.le_refl _) (by simp) (fun h=>by omega) (by rw [hr]; exact hlen)
   rw [hr] at hmain
   rw [show ((0:Nat):Int)=0 from rfl] at hmain
   rw [show (flt []).map (pad f)=[] from rfl] at hmain
   rw [hmain]
   rfl
def mem (l:List Bx) (p:List Int):Bool:=mS (l.map toL) p
def CFb (l:List Bx):Prop:=CF tops5 (l.map toL)
theorem CF_vR:∀(ts:List Int) {l:List RL},CF ts l→∀ b∈l,vR ts b
 | [],l,h,b,hb=>by
  rcases h with rfl | rfl
  ·cases hb
  ·rw [List.mem_singleton] at hb; rw [hb]; trivial
 | t :: ts,l,⟨c,h1,h2,h3⟩,b,hb=>by
  subst h1
  obtain⟨x,hx,hb⟩:=List.mem_flatMap.1 hb
  obtain⟨b',hb',rfl⟩:=List.mem_map.1 hb
  have:=h2.ok x hx
  exact⟨this.1,this.2.1,this.2.2.1,CF_vR ts (h3 x hx) b' hb'⟩
theorem vR_ok {b:Bx} (h:vR tops5 (toL b)):BOk b:=by
 obtain⟨a0,a1,a2,b0,b1,b2,c0,c1,c2,d0,d1,d2,e0,e1,e2,_⟩:=h
 exact⟨⟨a0,a1,a2⟩,⟨b0,b1,b2⟩,⟨c0,c1,c2⟩,⟨d0,d1,d2⟩,⟨e0,e1,e2⟩⟩
theorem CFb.ok {l:List Bx} (h:CFb l):∀ b∈l,BOk b:=fun b hb=>vR_ok (CF_vR _ h _ (List.mem_map_of_mem hb))
theorem Zwr {l:List RL} (h:∀ b∈l,b.length=5):(l.map (pad 0)).map toL=l:=by
 rw [List.map_map]
 conv=>rhs; rw [← List.map_id l]
 exact List.map_congr_left fun b hb=>Zxc (h b hb)
theorem Zh3:∀ t∈tops5,0≤t:=by unfold tops5; simp
theorem Zx7 (op:Bool→Bool→Bool) (a b:List Bx):∃ l:List Bx,Is op tops5 (a.map toL) (b.map toL) (l.map toL):=by
 obtain⟨l,h⟩:=Is.exists_ op tops5 Zh3 (a.map toL) (b.map toL)
 refine⟨l.map (pad 0),?_⟩
 rw [Zwr (fun b hb=>CF_len _ h.cf b hb)]
 exact h
structure Can (op:Bool→Bool→Bool) (a b l:List Bx):Prop where
 cf:CFb l
 mem:∀ p,vP tops5 p→mem l p=op (mem a p) (mem b p)
theorem Can.is {op:Bool→Bool→Bool} {a b l:List Bx} (h:Can op a b l):Is op tops5 (a.map toL) (b.map toL) (l.map toL):=⟨h.cf,h.mem⟩
theorem Zws {l l':List Bx} (h:l.map toL=l'.map toL):l=l':=by
 have:=congrArg (List.map ofL) h
 rw [List.map_map,List.map_map] at this
 have e:(ofL ∘ toL)=id:=funext fun b=>Zof b
 rw [e,List.map_id,List.map_id] at this
 exact this
theorem CFb.inj {l l':List Bx} (h:CFb l) (h':CFb l') (e:∀ p,vP tops5 p→mem l p=mem l' p):l=l':=Zws (CF_inj _ h h' e)
theorem Can.inj {op:Bool→Bool→Bool} {a b l l':List Bx} (h:Can op a b l) (h':Can op a b l'):l=l':=h.cf.inj h'.cf fun p hp=>by rw [h.mem p hp,h'.mem p hp]
theorem Can.ex (op:Bool→Bool→Bool) (a b:List Bx):∃ l,Can op a b l:=by
 obtain⟨l,h⟩:=Zx7 op a b
 exact⟨l,h.cf,h.mem⟩
theorem CFb.nil:CFb []:=CF_nil _
theorem Zs5 (p:List Int):mem [] p=false:=rfl
theorem Can.right {op:Bool→Bool→Bool} (h:∀ x,op x false=x) {a:List Bx} (ha:CFb a):Can op a [] a:=⟨ha,fun p _=>by rw [Zs5,h]⟩
theorem Zxf (l:List Bx):(l.map toL).map (pad 0)=l:=by
 rw [List.map_map]
 have e:(pad 0 ∘ toL)=id:=funext fun b=>Zof b
 rw [e,List.map_id]
theorem Zyy {op:Bool→Bool→Bool} {C:Nat→Int→List Bx→List Bx→Int→Option (List Bx × Bool)} (hC:Canon op C) {a b l:List Bx} (hl:a.length + b.length≤400000) (ha:∀ x∈a,BOk x) (hb:∀ x∈b,BOk x) (h:Can op a b l) :
  C fuel 0 a b 4096=some (if l.length≤4096 then (l,true) else ([],false)):=by
 have:=Zz2 hC (m:=4096) (by omega) (by omega) 5 0 fuel a b (l.map toL) (by omega) (by unfold fuel; omega) hl ha hb h.is
 rw [show ((0:Nat):Int)=0 from rfl,show ((4096:Nat):Int)=4096 from rfl] at this
 rw [this]
 unfold capd
 rw [List.length_map,Zxf]
theorem Zt3 {k:Int} {a b l:List Bx} (hl:a.length + b.length≤400000) (ha:∀ x∈a,BOk x) (hb:∀ x∈b,BOk x) (h:Can (opc k) a b l) (hlen:l.length≤2000000000):Zbp fuel a b k 0=some l:=by
 have:=Zz4 (k:=k) 5 0 fuel a b (l.map toL) (by omega) (by unfold fuel; omega) hl ha hb h.is (by rw [List.length_map]; exact hlen)
 rw [show ((0:Nat):Int)=0 from rfl] at this
 rw [this,Zxf]
def capB (l:List Bx):List Bx × Int:=if l.length≤4096 then (l,0) else ([],3)
theorem Zr9 (l:List Bx):Zeu l=some (capB l):=by
 unfold Zeu capB
 by_cases h:l.length≤4096
 ·rw [if_neg (by simp; omega),if_pos h]
 ·rw [if_pos (by simp; omega),if_neg h]
theorem Zs6 {a b l:List Bx} (hl:a.length + b.length≤400000) (ha:∀ x∈a,BOk x) (hb:∀ x∈b,BOk x) (h:Can (fun x y=>x || y) a b l):Zbt a b=some (capB l):=by
 unfold Zbt capB
 rw [Zyy Zvy hl ha hb h]
 by_cases h:l.length≤4096
 ·rw [if_pos h,if_pos h]; rfl
 ·rw [if_neg h,if_neg h]; rfl
end Go.AM
set_option maxRecDepth 100000
namespace Go.AM
open Go
theorem Ziw {a b:Zb}:Zcs a b=true ↔ a=b:=by rw [eq_rg]; simp
structure RunTo (f:Nat) (l:List Bx) (r:Zb) (n:Nat):Prop where
 h1:n≤l.length
 eq:∀ i (h:i<l.length),i<n→(l[i]).get (f:Int)=r
 ne:∀(h:n<l.length),(l[n]).get (f:Int) ≠ r
theorem Zz5 {f:Nat} (hf:f<5) {l:List Bx} (hl:l.length≤1000000) {b0:Bx} (h0:l[0]? = some b0):∀(k j n:Nat),l.length - j=k→k<n→1≤j→j≤l.length→(∀ i (h:i<l.length),i<j→(l[i]).get (f:Int)=b0.get (f:Int)) →
  ∃ N:Nat,Zcg (f:Int) l n (j:Int)=some (N:Int)∧j≤N∧RunTo f l (b0.get (f:Int)) N:=by
 intro k
 have hpos:0<l.length:=by
  rcases l with _ | ⟨x,l⟩
  ·simp at h0
  ·simp
 have i0:idx l (0:Int)=some b0:=by rw [show (0:Int)=((0:Nat):Int) from rfl,Zal hpos,← List.getElem?_eq_getElem,h0]
 induction k with
 | zero=>
  intro j n hk hn h1 hj he
  cases n with
  | zero=>omega
  | succ n=>
  have hd:decide ((j:Int)<(l.length:Int))=false:=by simp; omega
  rw [Zcg,hd]
  exact⟨j,rfl,Nat.le_refl _,hj,he,fun h=>by omega⟩
 | succ k ih=>
  intro j n hk hn h1 hj he
  cases n with
  | zero=>omega
  | succ n=>
  have hjl:j<l.length:=by omega
  have hd:decide ((j:Int)<(l.length:Int))=true:=by simp; omega
  rw [Zcg,hd]
  simp only [Option.bind_some,if_true,Zal hjl,i0]
  rw [if_pos ⟨by omega,by omega⟩,if_pos ⟨by omega,by omega⟩]
  simp only [Option.bind_some]
  by_cases hq:(l[j]).get (f:Int)=b0.get (f:Int)
  ·rw [if_pos (Ziw.2 hq),wsucc (by omega)]
   obtain⟨N,e,g1,g2⟩:=ih (j + 1) n (by omega) (by omega) (by omega) (by omega) (fun i h hi=>by
    rcases Nat.lt_or_eq_of_le (Nat.lt_succ_iff.1 hi) with h2 | h2
    ·exact he i h h2
    ·subst h2; exact hq)
   exact⟨N,e,by omega,g2⟩
  ·rw [if_neg (fun h=>hq (Ziw.1 h))]
   exact⟨j,rfl,Nat.le_refl _,hj,he,fun _=>hq⟩
theorem Zn9 {f:Nat} (hf:f<5) {l:List Bx} {r:Zb} {n:Nat} (hn:1≤n) (h:RunTo f l r n) (hl:l ≠ []) :
  l.map (sf f)=((l.take n).map (sf (f + 1))).map (r :: ·)++(l.drop n).map (sf f)∧(l.take n).map (sf (f + 1)) ≠ []∧∀ b,((l.drop n).map (sf f)).head? = some b→∃ r' b',b=r' :: b'∧r' ≠ r:=by
 refine⟨?_,?_,?_⟩
 ·conv=>lhs; rw [← List.take_append_drop n l,List.map_append]
  congr 1
  rw [List.map_map]
  refine List.map_congr_left fun b hb=>?_
  obtain⟨i,hi,rfl⟩:=List.getElem_of_mem hb
  have hi2:i<n∧i<l.length:=by rw [List.length_take] at hi; omega
  rw [List.getElem_take,Zg5 hf,h.eq i hi2.2 hi2.1]
  rfl
 ·intro e
  have:=congrArg List.length e
  simp only [List.length_map,List.length_take,List.length_nil] at this
  have:0<l.length:=List.length_pos_iff.2 hl
  omega
 ·intro b hb
  by_cases hnl:n<l.length
  ·rw [List.drop_eq_getElem_cons hnl] at hb
   simp only [List.map_cons,List.head?_cons,Option.some.injEq] at hb
   exact⟨_,_,by rw [← hb,Zg5 hf],h.ne hnl⟩
  ·rw [List.drop_eq_nil_of_le (by omega)] at hb
   simp at hb
def zpre (f:Nat) (b:Bx):Bx:=pad (f + 1) (sf (f + 1) b)
theorem Zyz {f:Nat} (hf:f<5) {v:List Bx} {i:Nat} (hi:i<v.length):Zbl (f:Int) (i:Int) fuel v 0=some (v.set i (zpre f v[i])):=by
 obtain⟨n,hn⟩:∃ n,fuel=n + 6:=⟨fuel - 6,by unfold fuel; omega⟩
 rw [hn]
 have stop:∀(k:Nat) (m:Nat) (w:List Bx),f<k→Zbl (f:Int) (i:Int) (m + 1) w (k:Int)=some w:=by
  intro k m w hk
  rw [Zbl,if_neg (by simp; omega)]
 have nx:∀(k:Nat) (m:Nat) (x:Bx),k<5→k≤f→Zbl (f:Int) (i:Int) (m + 1) (v.set i x) (k:Int)=Zbl (f:Int) (i:Int) m (v.set i (x.set (k:Int) zr)) ((k + 1:Nat):Int):=by
  intro k m x hk hkf
  rw [Zbl,if_pos (by simp; omega),Zal (show i<(v.set i x).length by rw [List.length_set]; exact hi),List.getElem_set_self]
  simp only [Option.bind_some,Int.toNat_natCast]
  rw [if_pos ⟨by omega,by omega⟩,wsucc (by omega),List.set_set]
  rfl
 have first:v=v.set i v[i]:=(List.set_getElem_self hi).symm
 conv=>lhs; rw [first]
 rw [show (0:Int)=((0:Nat):Int) from rfl]
 rcases fiveN hf with rfl | rfl | rfl | rfl | rfl
 ·rw [nx 0 _ _ (by omega) (by omega),stop _ _ _ (by omega)]; rfl
 ·rw [nx 0 _ _ (by omega) (by omega),nx 1 _ _ (by omega) (by omega),stop _ _ _ (by omega)]; rfl
 ·rw [nx 0 _ _ (by omega) (by omega),nx 1 _ _ (by omega) (by omega),nx 2 _ _ (by omega) (by omega),stop _ _ _ (by omega)]; rfl
 ·rw [nx 0 _ _ (by omega) (by omega),nx 1 _ _ (by omega) (by omega),nx 2 _ _ (by omega) (by omega),nx 3 _ _ (by omega) (by omega),stop _ _ _ (by omega)]; rfl
 ·rw [nx 0 _ _ (by omega) (by omega),nx 1 _ _ (by omega) (by omega),nx 2 _ _ (by omega) (by omega),nx 3 _ _ (by omega) (by omega),nx 4 _ _ (by omega) (by omega),stop _ _ _ (by omega)]; rfl
def stepN {α:Type} (g:α→α) (s:List α) (i:Nat) (_:α):List α:=match s[i]? with
 | some x=>s.set i (g x)
 | none=>s
theorem Zsa {α:Type} (g:α→α):∀(l pre:List α),foldI (stepN g) (pre++l) pre.length l=pre++l.map g
 | [],pre=>by simp [foldI]
 | x :: l,pre=>by
  have e:foldI (stepN g) (pre++x :: l) pre.length (x :: l)=foldI (stepN g) (stepN g (pre++x :: l) pre.length x) (pre.length + 1) l:=rfl
  rw [e]
  have h1:(pre++x :: l)[pre.length]? = some x:=by rw [List.getElem?_append_right (Nat.le_refl _),Nat.sub_self]; rfl
  have h2:(pre++x :: l).set pre.length (g x)=(pre++[g x])++l:=by rw [List.set_append_right _ _ (Nat.le_refl _),Nat.sub_self]; simp
  have h3:stepN g (pre++x :: l) pre.length x=(pre++[g x])++l:=by unfold stepN; rw [h1]; exact h2
  rw [h3]
  have:=Zsa g l (pre++[g x])
  rw [List.length_append,List.length_singleton] at this
  rw [this]
  simp
theorem Zy0 {f:Nat} (hf:f<5) {l:List Bx} (hl:l.length≤2000000000):Zfs (f:Int) l=some (l.map (zpre f)):=by
 unfold Zfs
 rw [if_pos (by unfold lim; omega)]
 have:=Zfu (L:=Zc2 (f:Int) l) l (stepN (zpre f)) id (fun _ s=>s.length=l.length) (by omega) (fun n s i hi hs=>by
  rw [Zc2]
  simp only [show ((i:Int)<(l.length:Int)) from by omega,decide_true,if_true,Option.bind_some,wsucc (by omega:i<1000000000001)]
  rw [Zyz hf (show i<s.length by omega)]
  have h3:stepN (zpre f) s i l[i]=s.set i (zpre f s[i]):=by unfold stepN; rw [List.getElem?_eq_getElem (show i<s.length by omega)]
  rw [h3]
  exact⟨rfl,by rw [List.length_set]; exact hs⟩) (fun n s hs=>by rw [Zc2]; simp) l rfl
 have h2:=Zsa (zpre f) l []
 rw [List.nil_append,List.nil_append,List.length_nil] at h2
 rw [this.1,h2]
 rfl
def lastG (f:Nat):Option Cell→Zm
 | none=>Zfo
 | some x=>gr1 f x
theorem Zul {f:Nat} (hf:f<5) {z0:Int→List Bx→Option Bool}
  (hz:∀ l:List Bx,l.length≤1000000→(∀ x∈l,BOk x)→∃ r,z0 ((f + 1:Nat):Int) l=some r∧(r=true ↔ CF (tops5.drop (f + 1)) (l.map (sf (f + 1))))) :
  ∀(K n:Nat) (l:List Bx) (last:Option Cell),l.length≤K→K<n→l.length≤1000000→(∀ x∈l,BOk x)→(∀ y∈last,y.2 ≠ []∧y.2.length≤1000000∧0≤y.1.Hi∧y.1.Hi<4294967296∧∀ b∈y.2,b.length=5 - (f + 1)) →
  ∃ o,Zbw (f:Int) z0 n (lastG f last) l=some o∧((∃ c,l.map (sf f)=flt c∧Nx (topOf (f:Int)) (tops5.drop (f + 1)) last c)→∃ g,o=.inl g)∧(¬ (∃ c,l.map (sf f)=flt c∧Nx (topOf (f:Int)) (tops5.drop (f + 1)) last c)→o=.inr false):=by
 intro K
 induction K with
 | zero=>
  intro n l last hlK hn hl hok hlast
  have:l=[]:=List.length_eq_zero_iff.1 (by omega)
  subst this
  cases n with
  | zero=>omega
  | succ n=>
  rw [Zbw,if_neg (by simp)]
  exact⟨_,rfl,fun _=>⟨_,rfl⟩,fun h=>absurd ⟨[],rfl,Nx.nil ..⟩ h⟩
 | succ K ih=>
  intro n l last hlK hn hl hok hlast
  cases n with
  | zero=>omega
  | succ n=>
  cases hll:l with
  | nil=>
   rw [Zbw,if_neg (by simp)]
   exact⟨_,rfl,fun _=>⟨_,rfl⟩,fun h=>absurd ⟨[],rfl,Nx.nil ..⟩ h⟩
  | cons b0 l'=>
  have hne:l ≠ []:=by rw [hll]; exact List.cons_ne_nil _ _
  have hpos:0<l.length:=List.length_pos_iff.2 hne
  have h0:l[0]? = some b0:=by rw [hll]; rfl
  have i0:idx l (0:Int)=some b0:=by rw [show (0:Int)=((0:Nat):Int) from rfl,Zal hpos,← List.getElem?_eq_getElem,h0]
  obtain⟨N,e1,g1,g2⟩:=Zz5 hf hl h0 (l.length - 1) 1 fuel rfl (by unfold fuel; omega) (Nat.le_refl _) (by omega) (fun i h hi=>by
   have:i=0:=by omega
   subst this
   rw [List.getElem?_eq_getElem h,Option.some.injEq] at h0
   rw [h0])
  rw [← hll]
  obtain⟨s1,s2,s3⟩:=Zn9 hf g1 g2 hne
  have hb0:BOk b0:=hok b0 (by rw [hll]; exact List.mem_cons_self ..)
  have hb0r:=hb0.at_ hf
  have htop:=topN hf
  rw [Zbw,if_pos (by simp; omega)]
  rw [show ((1:Nat):Int)=1 from rfl] at e1
  rw [e1]
  simp only [Option.bind_some,i0,Int.toNat_natCast,Int.toNat_zero,List.drop_zero]
  have hN:=g2.h1
  rw [if_pos ⟨by omega,by omega⟩,if_pos ⟨by omega,by omega,by omega⟩]
  have htl:(l.take N).length≤1000000:=by rw [List.length_take]; omega
  rw [Zy0 hf (by omega)]
  simp only [Option.bind_some]
  rw [if_pos ⟨by omega,by omega,by omega⟩,wsucc (by omega)]
  obtain⟨rv,z1,z2⟩:=hz (l.take N) htl (fun x hx=>hok x (List.mem_of_mem_take hx))
  rw [z1]
  simp only [Option.bind_some]
  rw [s1]
  have hrun:=Nx.run (t:=topOf (f:Int)) (ts:=tops5.drop (f + 1)) (last:=last) (r:=b0.get (f:Int)) s2 s3
  rw [hrun]
  cases rv with
  | false=>
   simp only [Bool.not_false,if_true]
   have hncf:¬ CF (tops5.drop (f + 1)) ((l.take N).map (sf (f + 1))):=fun h=>by have:=z2.2 h; cases this
   exact⟨_,rfl,fun h=>absurd h.2.1 hncf,fun _=>rfl⟩
  | true=>
   simp only [Bool.not_true,Bool.false_eq_true,if_false]
   have hcf:=z2.1 rfl
   have hzl:∀ b∈(l.take N).map (sf (f + 1)),b.length=5 - (f + 1):=fun b hb=>by
    obtain⟨x,_,rfl⟩:=List.mem_map.1 hb
    exact sf_len (by omega) x
   have hzm:(l.take N).map (zpre f)=((l.take N).map (sf (f + 1))).map (pad (f + 1)):=by rw [List.map_map]; rfl
   have hgap:∃ og:Unit ⊕ Bool,(if decide (((lastG f last).f_rest.length:Int) > 0)=true then
      (if decide ((b0.get (f:Int)).Lo≤(lastG f last).f_values.Hi)=true then some true else
       (if ((b0.get (f:Int)).Lo == (IntKind.wrap .u32 ((lastG f last).f_values.Hi + (1:Int))))=true then
        (Zbe ((l.take N).map (zpre f)) (lastG f last).f_rest).bind fun(r223:Bool)=>
        some r223
        else some false).bind fun(v225:Bool)=>
       some v225
       ).bind fun(v227:Bool)=>
      if v227=true then
       (some (.inr false):Option (Unit ⊕ Bool))
      else
       some (.inl ())
     else
      some (.inl ()))=some og∧((∀ y∈last,gp y (b0.get (f:Int),(l.take N).map (sf (f + 1))))→og=.inl ())∧(¬ (∀ y∈last,gp y (b0.get (f:Int),(l.take N).map (sf (f + 1))))→og=.inr false):=by
    cases last with
    | none=>
     rw [if_neg (show ¬ decide (((lastG f none).f_rest.length:Int) > 0)=true from fun h=>by cases h)]
     exact⟨_,rfl,fun _=>rfl,fun h=>absurd (fun y hy=>by cases hy) h⟩
    | some y=>
     obtain⟨y1,y2,y3,y4,y5⟩:=hlast y rfl
     have hyl:0<y.2.length:=List.length_pos_iff.2 y1
     have hall:(∀ z∈some y,gp z (b0.get (f:Int),(l.take N).map (sf (f + 1)))) ↔ gp y (b0.get (f:Int),(l.take N).map (sf (f + 1))):=⟨fun h=>h y rfl,fun h z hz=>by cases hz; exact h⟩
     simp only [lastG,show (gr1 f y).f_rest=y.2.map (pad (f + 1)) from rfl,show (gr1 f y).f_values=y.1 from rfl,List.length_map]
     rw [if_pos (by simp; omega),hall]
     unfold gp
     by_cases c1:(b0.get (f:Int)).Lo≤y.1.Hi
     ·rw [if_pos (decide_eq_true c1)]
      simp only [Option.bind_some,if_true]
      exact⟨_,rfl,fun h=>by have:=h.1; omega,fun _=>rfl⟩
     ·rw [if_neg (by simpa using c1)]
      rw [wu32 (x:=y.1.Hi + 1) (by omega) (by omega)]
      by_cases c2:(b0.get (f:Int)).Lo=y.1.Hi + 1
      ·rw [if_pos (by simpa using c2),Zvr (by rw [List.length_map]; omega),hzm]
       have hmi:=Zl3 (f:=f + 1) (by omega) hzl y5
       simp only [Option.bind_some,decide_eq_true_eq,hmi]
       by_cases c3:(l.take N).map (sf (f + 1))=y.2
       ·rw [if_pos c3]
        exact⟨_,rfl,fun h=>absurd c3.symm (h.2 (by omega)),fun _=>rfl⟩
       ·rw [if_neg c3]
        exact⟨_,rfl,fun _=>rfl,fun h=>absurd ⟨by omega,fun _ h=>c3 h.symm⟩ h⟩
      ·rw [if_neg (by simpa using c2)]
       simp only [Option.bind_some,Bool.false_eq_true,if_false]
       exact⟨_,rfl,fun _=>rfl,fun h=>absurd ⟨by omega,fun h=>absurd h.symm c2⟩ h⟩
   obtain⟨og,og1,og2,og3⟩:=hgap
   rw [og1]
   by_cases hg:∀ y∈last,gp y (b0.get (f:Int),(l.take N).map (sf (f + 1)))
   ·rw [og2 hg]
    simp only [Option.bind_some]
    rw [if_pos ⟨by omega,by omega,by omega⟩,List.take_length]
    rw [show (Zm.mk (b0.get (f:Int)) ((l.take N).map (zpre f)))=lastG f (some (b0.get (f:Int),(l.take N).map (sf (f + 1)))) by rw [hzm]; rfl]
    obtain⟨o,o1,o2,o3⟩:=ih n (l.drop N) (some (b0.get (f:Int),(l.take N).map (sf (f + 1)))) (by rw [List.length_drop]; omega) (by omega) (by rw [List.length_drop]; omega) (fun x hx=>hok x (List.mem_of_mem_drop hx)) (fun y hy=>by
     cases hy
     refine⟨s2,by rw [List.length_map]; exact htl,by show 0≤(b0.get (f:Int)).Hi; omega,by show (b0.get (f:Int)).Hi<4294967296; omega,hzl⟩)
    refine⟨o,o1,fun h=>o2 h.2.2.2,fun h=>o3 fun h2=>h ⟨⟨by omega,by omega,by omega⟩,hcf,hg,h2⟩⟩
   ·rw [og3 hg]
    simp only [Option.bind_some]
    exact⟨_,rfl,fun h=>absurd h.2.2.1 hg,fun _=>rfl⟩
theorem Zx8:∀(k f nr:Nat) (l:List Bx),f + k=5→k<nr→l.length≤1000000→(∀ x∈l,BOk x)→∃ r,Zbi nr (f:Int) l=some r∧(r=true ↔ CF (tops5.drop f) (l.map (sf f))):=by
 intro k
 induction k with
 | zero=>
  intro f nr l hf hn hl hok
  have:f=5:=by omega
  subst this
  cases nr with
  | zero=>omega
  | succ nr=>
  rw [Zbi,if_pos (by decide)]
  refine⟨_,rfl,?_⟩
  show _ ↔ (l.map (sf 5)=[]∨l.map (sf 5)=[[]])
  rcases l with _ | ⟨x,_ | ⟨y,l⟩⟩
  ·simp
  ·exact⟨fun _=>Or.inr rfl,fun _=>by simp⟩
  ·constructor
   ·intro h; simp at h; omega
   ·rintro(h | h) <;> simp at h
 | succ k ih=>
  intro f nr l hf hn hl hok
  have hf5:f<5:=by omega
  cases nr with
  | zero=>omega
  | succ nr=>
  rw [Zbi,if_neg (by simp; omega),Zh2 hf5,CF_iff]
  obtain⟨o,o1,o2,o3⟩:=Zul hf5 (z0:=Zbi nr) (fun l hl hok=>ih (f + 1) nr l (by omega) (by omega) hl hok) l.length fuel l none (Nat.le_refl _) (by unfold fuel; omega) hl hok (fun y hy=>(by cases hy))
  rw [show lastG f none=Zfo from rfl] at o1
  rw [o1]
  by_cases h:∃ c,l.map (sf f)=flt c∧Nx (topOf (f:Int)) (tops5.drop (f + 1)) none c
  ·obtain⟨g,rfl⟩:=o2 h
   exact⟨true,rfl,fun _=>h,fun _=>rfl⟩
  ·rw [o3 h]
   exact⟨false,rfl,fun h=>(by cases h),fun h2=>absurd h2 h⟩
structure VS (l:List Bx):Prop where
 len:l.length≤4096
 ok:∀ x∈l,BOk x
 cf:CFb l
theorem VS.of {l:List Bx} (h:CFb l) (hl:l.length≤4096):VS l:=⟨hl,h.ok,h⟩
theorem Zlu {l:List Bx} (hin:∀ x∈l,BIn x):(l.filter vB).length=l.length ↔ ∀ x∈l,BOk x:=by
 rw [List.length_filter_eq_length_iff]
 exact⟨fun h x hx=>vB_ok (hin x hx) (h x hx),fun h x hx=>ok_vB (h x hx)⟩
theorem Zy1 {l:List Bx} (hl:l.length≤1000000) (hin:∀ x∈l,BIn x):∃ r,Zew l=some r∧(r=true ↔ VS l):=by
 unfold Zew
 by_cases h1:l.length≤4096
 ·have hd:decide ((l.length:Int)≤4096)=true:=by simp; omega
  rw [hd]
  simp only [Option.bind_some,if_true]
  rw [Zt0 (by omega)]
  simp only [Option.bind_some]
  by_cases h2:∀ x∈l,BOk x
  ·have he:(((l.filter vB).length:Int) == (l.length:Int))=true:=by rw [(Zlu hin).2 h2]; simp
   rw [he]
   simp only [if_true]
   obtain⟨r,e,g⟩:=Zx8 5 0 fuel l (by omega) (by unfold fuel; omega) hl h2
   rw [show ((0:Nat):Int)=0 from rfl] at e
   rw [e]
   refine⟨r,rfl,g.trans ⟨fun h=>⟨h1,h2,h⟩,fun h=>h.cf⟩⟩
  ·have he:(((l.filter vB).length:Int) == (l.length:Int))=false:=by
    have h3:¬ (l.filter vB).length=l.length:=fun h=>h2 ((Zlu hin).1 h)
    simp only [beq_eq_false_iff_ne,ne_eq]
    omega
   rw [he]
   exact⟨false,rfl,fun h=>(by cases h),fun h=>absurd h.ok h2⟩
 ·have hd:decide ((l.length:Int)≤4096)=false:=by simp; omega
  rw [hd]
  exact⟨false,rfl,fun h=>(by cases h),fun h=>absurd h.len h1⟩
end Go.AM
set_option maxRecDepth 100000
namespace Go.AM
open Go
theorem Zy2 {a b:List Bx} {i:Nat} {x y:Bx} (hx:idx a (i:Int)=some x) (hy:idx b (i:Int)=some y):∀(k f n:Nat),f + k=5→k<n→Zdg a b (i:Int) n (f:Int)=some (if sf f x=sf f y then .inl () else .inr false):=by
 intro k
 induction k with
 | zero=>
  intro f n hf hn
  cases n with
  | zero=>omega
  | succ n=>
  have:f=5:=by omega
  subst this
  rw [Zdg,if_neg (by decide),if_pos (show sf 5 x=sf 5 y from rfl)]
 | succ k ih=>
  intro f n hf hn
  cases n with
  | zero=>omega
  | succ n=>
  have hf5:f<5:=by omega
  rw [Zdg,if_pos (by simp; omega),hx,hy]
  simp only [Option.bind_some]
  rw [if_pos ⟨by omega,by omega⟩,if_pos ⟨by omega,by omega⟩,wsucc (by omega),ih (f + 1) n (by omega) (by omega),eq_rg]
  rw [Zg5 hf5 x,Zg5 hf5 y]
  by_cases h:x.get (f:Int)=y.get (f:Int)
  ·simp [h]
  ·simp [h]
theorem Zt4 {α β:Type} [DecidableEq β] (g:α→β):∀(l pre b:List α),l.length + pre.length=b.length→findI (fun i x=>if (b[i]?).map g=some (g x) then none else some false) pre.length l=if l.map g=(b.drop pre.length).map g then none else some false
 | [],pre,b,h=>by simp at h; rw [h]; simp [findI]
 | x :: l,pre,b,h=>by
  simp only [List.length_cons] at h
  have hi:pre.length<b.length:=by omega
  rw [List.drop_eq_getElem_cons hi]
  simp only [findI,List.getElem?_eq_getElem hi,Option.map_some,List.map_cons,List.cons.injEq,Option.some.injEq]
  by_cases e:g b[pre.length]=g x
  ·rw [if_pos e]
   simp only [e,true_and]
   have:=Zt4 g l (pre++[x]) b (by simp; omega)
   simp only [List.length_append,List.length_singleton] at this
   exact this
  ·rw [if_neg e,if_neg (fun h=>e h.1.symm)]
theorem Zz6 {a b:List Bx} (ha:a.length≤1000000000000) {f:Nat} (hf:f≤5):Zfe a b (f:Int)=some (decide (a.map (sf f)=b.map (sf f))):=by
 unfold Zfe
 by_cases hl:a.length=b.length
 ·rw [if_neg (by simp [hl])]
  rw [Zlr (L:=Zdh a b (f:Int)) a (fun i x=>if (b[i]?).map (sf f)=some (sf f x) then none else some false) ha (fun n i hi=>by
   have hj:i<b.length:=by omega
   rw [Zdh,if_pos (by simp; omega),Zy2 (Zal hi) (Zal hj) (5 - f) f fuel (by omega) (by unfold fuel; omega)]
   simp only [Option.bind_some,List.getElem?_eq_getElem hj,Option.map_some,Option.some.injEq,wsucc (by omega:i<1000000000001)]
   by_cases e:sf f a[i]=sf f b[i]
   ·rw [if_pos e,if_pos e.symm]
   ·rw [if_neg e,if_neg (fun h=>e h.symm)]) (fun n=>by rw [Zdh]; simp)]
  have:=Zt4 (sf f) a [] b (by simpa using hl)
  simp only [List.length_nil,List.drop_zero] at this
  rw [this]
  by_cases e:a.map (sf f)=b.map (sf f)
  ·simp [e,orS]
  ·simp [e,orS]
 ·rw [if_pos (by simp; omega)]
  rw [decide_eq_false (fun e=>hl (by have:=congrArg List.length e; simpa using this))]
theorem Z03 {f:Nat} (hf:f<5) {a0 l:List Bx} {from_:Nat} (hd:a0.drop from_=l) (hle:from_≤a0.length) (hl:a0.length≤1000000) {b0:Bx} (h0:l[0]? = some b0):∀(k j n:Nat),l.length - j=k→k<n→j≤l.length→(∀ i (h:i<l.length),i<j→(l[i]).get (f:Int)=b0.get (f:Int)) →
  ∃ N:Nat,Zcf a0 (f:Int) (from_:Int) n ((from_ + j:Nat):Int)=some ((from_ + N:Nat):Int)∧j≤N∧RunTo f l (b0.get (f:Int)) N:=by
 have hlen:l.length=a0.length - from_:=by rw [← hd,List.length_drop]
 have gi:∀ j,l[j]? = a0[from_ + j]?:=fun j=>by rw [← hd,List.getElem?_drop]
 have hpos:0<l.length:=by
  rcases l with _ | ⟨x,l⟩
  ·simp at h0
  ·simp
 have gx:∀ j (h:j<l.length),idx a0 ((from_ + j:Nat):Int)=some l[j]:=fun j h=>by
  rw [Zal (by omega),← List.getElem?_eq_getElem,← gi,List.getElem?_eq_getElem h]
 have i0:idx a0 (from_:Int)=some b0:=by
  have:=gx 0 hpos
  rw [Nat.add_zero] at this
  rw [this,← List.getElem?_eq_getElem,h0]
 intro k
 induction k with
 | zero=>
  intro j n hk hn hj he
  cases n with
  | zero=>omega
  | succ n=>
  have hd:decide (((from_ + j:Nat):Int)<(a0.length:Int))=false:=by simp; omega
  rw [Zcf,hd]
  exact⟨j,rfl,Nat.le_refl _,hj,he,fun h=>by omega⟩
 | succ k ih=>
  intro j n hk hn hj he
  cases n with
  | zero=>omega
  | succ n=>
  have hjl:j<l.length:=by omega
  have hd:decide (((from_ + j:Nat):Int)<(a0.length:Int))=true:=by simp; omega
  rw [Zcf,hd]
  simp only [Option.bind_some,if_true,gx j hjl,i0]
  rw [if_pos ⟨by omega,by omega⟩,if_pos ⟨by omega,by omega⟩]
  simp only [Option.bind_some]
  by_cases hq:(l[j]).get (f:Int)=b0.get (f:Int)
  ·rw [if_pos (Ziw.2 hq),wsucc (by omega)]
   obtain⟨N,e,g1,g2⟩:=ih (j + 1) n (by omega) (by omega) (by omega) (fun i h hi=>by
    rcases Nat.lt_or_eq_of_le (Nat.lt_succ_iff.1 hi) with h2 | h2
    ·exact he i h h2
    ·subst h2; exact hq)
   exact⟨N,e,by omega,g2⟩
  ·rw [if_neg (fun h=>hq (Ziw.1 h))]
   exact⟨j,rfl,Nat.le_refl _,hj,he,fun _=>hq⟩
def LastR (f:Nat) (pre v:List Bx):Option Cell→Prop
 | none=>pre=[]
 | some y=>v.map (sf (f + 1))=y.2∧∃ p0 b,pre=p0++[b]∧b.get (f:Int)=y.1
theorem Zsb {f:Nat} (hf:f<5) {a0:List Bx} (hal:a0.length≤1000000) (hok:∀ x∈a0,BOk x) {z0:List Bx→Int→Option Bool}
  (hz:∀ l:List Bx,l ≠ []→l.length≤1000000→(∀ x∈l,BOk x)→∃ r,z0 l ((f + 1:Nat):Int)=some r∧(r=true ↔ CF (tops5.drop (f + 1)) (l.map (sf (f + 1))))) :
  ∀(K n:Nat) (pre l v:List Bx) (last:Option Cell),l.length≤K→K<n→a0=pre++l→LastR f pre v last→(∀ y∈last,y.2 ≠ []∧0≤y.1.Hi∧y.1.Hi<4294967296)→v.length≤1000000 →
  ∃ o,Zbv a0 (f:Int) z0 n v (pre.length:Int)=some o∧((∃ c,l.map (sf f)=flt c∧Nx (topOf (f:Int)) (tops5.drop (f + 1)) last c)→o=.inl ())∧(¬ (∃ c,l.map (sf f)=flt c∧Nx (topOf (f:Int)) (tops5.drop (f + 1)) last c)→o=.inr false):=by
 intro K
 induction K with
 | zero=>
  intro n pre l v last hlK hn ha hl hlast hv
  have:l=[]:=List.length_eq_zero_iff.1 (by omega)
  subst this
  cases n with
  | zero=>omega
  | succ n=>
  rw [Zbv,if_neg (by rw [ha]; simp)]
  exact⟨_,rfl,fun _=>rfl,fun h=>absurd ⟨[],rfl,Nx.nil ..⟩ h⟩
 | succ K ih=>
  intro n pre l v last hlK hn ha hl hlast hv
  cases n with
  | zero=>omega
  | succ n=>
  cases hll:l with
  | nil=>
   rw [Zbv,if_neg (by rw [ha,hll]; simp)]
   exact⟨_,rfl,fun _=>rfl,fun h=>absurd ⟨[],rfl,Nx.nil ..⟩ h⟩
  | cons b0 l'=>
  have hne:l ≠ []:=by rw [hll]; exact List.cons_ne_nil _ _
  have hpos:0<l.length:=List.length_pos_iff.2 hne
  have halen:a0.length=pre.length + l.length:=by rw [ha,List.length_append]
  have h0:l[0]? = some b0:=by rw [hll]; rfl
  have hdrop:a0.drop pre.length=l:=by rw [ha,List.drop_left' rfl]
  have i0:idx a0 (pre.length:Int)=some b0:=by
   rw [Zal (by omega),← List.getElem?_eq_getElem,← Nat.add_zero pre.length,← List.getElem?_drop,hdrop,h0]
  obtain⟨N,e1,_,g2⟩:=Z03 hf hdrop (by omega) hal h0 l.length 0 fuel rfl (by unfold fuel; omega) (by omega) (fun i h hi=>by omega)
  have g1:1≤N:=by
   rcases Nat.eq_zero_or_pos N with h | h
   ·subst h
    have:=g2.ne hpos
    rw [List.getElem?_eq_getElem hpos,Option.some.injEq] at h0
    rw [h0] at this
    exact absurd rfl this
   ·exact h
  rw [← hll]
  obtain⟨s1,s2,s3⟩:=Zn9 hf g1 g2 hne
  have hlok:∀ x∈l,BOk x:=fun x hx=>hok x (by rw [ha]; exact List.mem_append_right _ hx)
  have hb0:BOk b0:=hlok b0 (by rw [hll]; exact List.mem_cons_self ..)
  have hb0r:=hb0.at_ hf
  have htop:=topN hf
  have hN:=g2.h1
  have hpart:List.drop pre.length (List.take (pre.length + N) a0)=l.take N:=by rw [ha,List.take_length_add_append,List.drop_left' rfl]
  rw [Zbv,if_pos (by simp; omega)]
  rw [Nat.add_zero] at e1
  rw [e1]
  simp only [Option.bind_some,i0,Int.toNat_natCast,hpart]
  rw [if_pos ⟨by omega,by omega,by omega⟩]
  have htl:(l.take N).length≤1000000:=by rw [List.length_take]; omega
  rw [wsucc (i:=f) (by omega)]
  have hrun:=Nx.run (t:=topOf (f:Int)) (ts:=tops5.drop (f + 1)) (last:=last) (r:=b0.get (f:Int)) s2 s3
  rw [s1,hrun]
  have hgap:∃ og:Unit ⊕ Bool,(if decide ((pre.length:Int) > 0)=true then
     (idx a0 (IntKind.wrap .i64 ((pre.length:Int) - (1:Int)))).bind fun(x312:Bx)=>
     if 0≤(f:Int)∧(f:Int)<5 then
     if 0≤(f:Int)∧(f:Int)<5 then
     (if decide ((b0.get (f:Int)).Lo≤(x312.get (f:Int)).Hi)=true then some true else
      (if ((b0.get (f:Int)).Lo == (IntKind.wrap .u32 ((x312.get (f:Int)).Hi + (1:Int))))=true then
       (Zfe v (l.take N) ((f + 1:Nat):Int)).bind fun(r322:Bool)=>
       some r322
       else some false).bind fun(v324:Bool)=>
      some v324
      ).bind fun(v326:Bool)=>
     if v326=true then
      (some (.inr false):Option (Unit ⊕ Bool))
     else
      some (.inl ())
     else none
     else none
    else
     some (.inl ()))=some og∧((∀ y∈last,gp y (b0.get (f:Int),(l.take N).map (sf (f + 1))))→og=.inl ())∧(¬ (∀ y∈last,gp y (b0.get (f:Int),(l.take N).map (sf (f + 1))))→og=.inr false):=by
   cases last with
   | none=>
    have hp:pre=[]:=hl
    rw [hp,if_neg (by decide)]
    exact⟨_,rfl,fun _=>rfl,fun h=>absurd (fun y hy=>by cases hy) h⟩
   | some y=>
    obtain⟨hv2,p0,b,hp,hbr⟩:=hl
    obtain⟨y1,y3,y4⟩:=hlast y rfl
    have hall:(∀ z∈some y,gp z (b0.get (f:Int),(l.take N).map (sf (f + 1)))) ↔ gp y (b0.get (f:Int),(l.take N).map (sf (f + 1))):=⟨fun h=>h y rfl,fun h z hz=>by cases hz; exact h⟩
    have hplen:pre.length=p0.length + 1:=by rw [hp,List.length_append]; rfl
    have ib:idx a0 (IntKind.wrap .i64 ((pre.length:Int) - (1:Int)))=some b:=by
     rw [wi64 (by omega) (by omega),hplen,show ((p0.length + 1:Nat):Int) - 1=((p0.length:Nat):Int) by omega,Zal (by omega),← List.getElem?_eq_getElem,ha,hp]
     rw [List.append_assoc,List.getElem?_append_right (Nat.le_refl _),Nat.sub_self]
     rfl
    rw [if_pos (by simp; omega),ib]
    simp only [Option.bind_some]
    rw [if_pos ⟨by omega,by omega⟩,if_pos ⟨by omega,by omega⟩,hbr,hall]
    unfold gp
    by_cases c1:(b0.get (f:Int)).Lo≤y.1.Hi
    ·rw [if_pos (decide_eq_true c1)]
     simp only [Option.bind_some,if_true]
     exact⟨_,rfl,fun h=>by have:=h.1; omega,fun _=>rfl⟩
    ·rw [if_neg (by simpa using c1)]
     rw [wu32 (x:=y.1.Hi + 1) (by omega) (by omega)]
     by_cases c2:(b0.get (f:Int)).Lo=y.1.Hi + 1
     ·rw [if_pos (by simpa using c2),Zz6 (by omega) (by omega),hv2]
      simp only [Option.bind_some,decide_eq_true_eq]
      by_cases c3:y.2=(l.take N).map (sf (f + 1))
      ·rw [if_pos c3]
       exact⟨_,rfl,fun h=>absurd c3 (h.2 (by omega)),fun _=>rfl⟩
      ·rw [if_neg c3]
       exact⟨_,rfl,fun _=>rfl,fun h=>absurd ⟨by omega,fun _=>c3⟩ h⟩
     ·rw [if_neg (by simpa using c2)]
      simp only [Option.bind_some,Bool.false_eq_true,if_false]
      exact⟨_,rfl,fun _=>rfl,fun h=>absurd ⟨by omega,fun h=>absurd h.symm c2⟩ h⟩
  obtain⟨og,og1,og2,og3⟩:=hgap
  rw [og1]
  by_cases hg:∀ y∈last,gp y (b0.get (f:Int),(l.take N).map (sf (f + 1)))
  ·rw [og2 hg]
   simp only [Option.bind_some]
   obtain⟨rv,z1,z2⟩:=hz (l.take N) (fun h=>s2 (by rw [h]; rfl)) htl (fun x hx=>hlok x (List.mem_of_mem_take hx))
   rw [z1]
   simp only [Option.bind_some]
   cases rv with
   | false=>
    simp only [Bool.not_false,if_true,Option.bind_some]
    have hncf:¬ CF (tops5.drop (f + 1)) ((l.take N).map (sf (f + 1))):=fun h=>by have:=z2.2 h; cases this
    exact⟨_,rfl,fun h=>absurd h.2.1 hncf,fun _=>rfl⟩
   | true=>
    simp only [Bool.not_true,Bool.false_eq_true,if_false,Option.bind_some]
    have hcf:=z2.1 rfl
    have hN2:(l.take N).length=N:=by rw [List.length_take]; omega
    have hpl:(pre++l.take N).length=pre.length + N:=by rw [List.length_append,hN2]
    rw [hN2,wi64 (by omega) (by omega),show (pre.length:Int) + (N:Int)=(((pre++l.take N).length:Nat):Int) by rw [hpl]; omega]
    have hlr:LastR f (pre++l.take N) (l.take N) (some (b0.get (f:Int),(l.take N).map (sf (f + 1)))):=by
     refine⟨rfl,pre++l.take (N - 1),(l[N - 1]'(by omega)),?_,g2.eq (N - 1) (by omega) (by omega)⟩
     rw [List.append_assoc]
     congr 1
     obtain⟨M,rfl⟩:∃ M,N=M + 1:=⟨N - 1,by omega⟩
     rw [List.take_add_one,List.getElem?_eq_getElem (by omega)]
     rfl
    obtain⟨o,o1,o2,o3⟩:=ih n (pre++l.take N) (l.drop N) (l.take N) (some (b0.get (f:Int),(l.take N).map (sf (f + 1)))) (by rw [List.length_drop]; omega) (by omega) (by rw [List.append_assoc,List.take_append_drop,ha]) hlr (fun y hy=>by
     cases hy
     exact⟨s2,by show 0≤(b0.get (f:Int)).Hi; omega,by show (b0.get (f:Int)).Hi<4294967296; omega⟩) htl
    refine⟨o,o1,fun h=>o2 h.2.2.2,fun h=>o3 fun h2=>h ⟨⟨by omega,by omega,by omega⟩,hcf,hg,h2⟩⟩
  ·rw [og3 hg]
   simp only [Option.bind_some]
   exact⟨_,rfl,fun h=>absurd h.2.2.1 hg,fun _=>rfl⟩
theorem Zvz:∀(k f nr:Nat) (l:List Bx),f + k=5→k<nr→(f=5→l ≠ [])→l.length≤1000000→(∀ x∈l,BOk x)→∃ r,Zbh nr l (f:Int)=some r∧(r=true ↔ CF (tops5.drop f) (l.map (sf f))):=by
 intro k
 induction k with
 | zero=>
  intro f nr l hf hn hne hl hok
  have:f=5:=by omega
  subst this
  cases nr with
  | zero=>omega
  | succ nr=>
  rw [Zbh,if_pos (by decide)]
  refine⟨_,rfl,?_⟩
  show _ ↔ (l.map (sf 5)=[]∨l.map (sf 5)=[[]])
  rcases l with _ | ⟨x,_ | ⟨y,l⟩⟩
  ·exact absurd rfl (hne rfl)
  ·exact⟨fun _=>Or.inr rfl,fun _=>by simp⟩
  ·constructor
   ·intro h; simp at h; omega
   ·rintro(h | h) <;> simp at h
 | succ k ih=>
  intro f nr l hf hn hne hl hok
  have hf5:f<5:=by omega
  cases nr with
  | zero=>omega
  | succ nr=>
  rw [Zbh,if_neg (by simp; omega),Zh2 hf5,CF_iff]
  obtain⟨o,o1,o2,o3⟩:=Zsb hf5 hl hok (z0:=Zbh nr) (fun l hne hl hok=>ih (f + 1) nr l (by omega) (by omega) (fun _=>hne) hl hok) l.length fuel [] l [] none (Nat.le_refl _) (by unfold fuel; omega) rfl rfl (fun y hy=>(by cases hy)) (by simp)
  rw [show (([]:List Bx).length:Int)=0 from rfl] at o1
  rw [o1]
  by_cases h:∃ c,l.map (sf f)=flt c∧Nx (topOf (f:Int)) (tops5.drop (f + 1)) none c
  ·rw [o2 h]
   exact⟨true,rfl,fun _=>h,fun _=>rfl⟩
  ·rw [o3 h]
   exact⟨false,rfl,fun h=>(by cases h),fun h2=>absurd h2 h⟩
theorem Zx9 {l:List Bx} (hl:l.length≤1000000) (hin:∀ x∈l,BIn x):∃ r,Zff l=some r∧(r=true ↔ VS l):=by
 unfold Zff
 by_cases h1:l.length≤4096
 ·have hd:decide ((l.length:Int)≤4096)=true:=by simp; omega
  rw [hd]
  simp only [Option.bind_some,if_true]
  rw [Zyu (by omega)]
  simp only [Option.bind_some]
  by_cases h2:∀ x∈l,BOk x
  ·have he:(((l.filter vB).length:Int) == (l.length:Int))=true:=by rw [(Zlu hin).2 h2]; simp
   rw [he]
   simp only [if_true]
   obtain⟨r,e,g⟩:=Zvz 5 0 fuel l (by omega) (by unfold fuel; omega) (by omega) hl h2
   rw [show ((0:Nat):Int)=0 from rfl] at e
   rw [e]
   refine⟨r,rfl,g.trans ⟨fun h=>⟨h1,h2,h⟩,fun h=>h.cf⟩⟩
  ·have he:(((l.filter vB).length:Int) == (l.length:Int))=false:=by
    have h3:¬ (l.filter vB).length=l.length:=fun h=>h2 ((Zlu hin).1 h)
    simp only [beq_eq_false_iff_ne,ne_eq]
    omega
   rw [he]
   exact⟨false,rfl,fun h=>(by cases h),fun h=>absurd h.ok h2⟩
 ·have hd:decide ((l.length:Int)≤4096)=false:=by simp; omega
  rw [hd]
  exact⟨false,rfl,fun h=>(by cases h),fun h=>absurd h.len h1⟩
end Go.AM
set_option maxRecDepth 100000
namespace Go.AM
open Go
def sumL {α:Type} (f:α→Nat) (l:List α):Nat:=l.foldr (fun x n=>f x + n) 0
theorem Zei {α:Type} (f:α→Nat) (x:α) (l:List α):sumL f (x :: l)=f x + sumL f l:=rfl
theorem Zmv {α:Type} (f g:α→Nat) (l:List α):sumL (fun x=>f x + g x) l=sumL f l + sumL g l:=by
 induction l with
 | nil=>rfl
 | cons x l ih=>rw [Zei,Zei,Zei,ih]; omega
theorem Z04 {α:Type} {f g:α→Nat} {l:List α} (h:∀ x∈l,f x≤g x):sumL f l≤sumL g l:=by
 induction l with
 | nil=>exact Nat.le_refl _
 | cons x l ih=>
  rw [Zei,Zei]
  have:=h x (List.mem_cons_self ..)
  have:=ih fun y hy=>h y (List.mem_cons_of_mem _ hy)
  omega
theorem Zqt {α:Type} (k:Nat) (f:α→Nat) (l:List α):sumL (fun x=>k * f x) l=k * sumL f l:=by
 induction l with
 | nil=>rfl
 | cons x l ih=>rw [Zei,Zei,ih,Nat.mul_add]
theorem Zxg {α:Type} (p:α→Bool) (f:α→Nat) (l:List α):sumL (fun x=>if p x=true then f x else 0) l=sumL f (l.filter p):=by
 induction l with
 | nil=>rfl
 | cons x l ih=>
  rw [Zei,ih,List.filter_cons]
  cases p x
  ·simp
  ·simp [Zei]
theorem Zsc {α:Type} (k:Nat) (l:List α):sumL (fun _=>k) l=l.length * k:=by
 induction l with
 | nil=>simp [sumL]
 | cons x l ih=>rw [Zei,ih,List.length_cons,Nat.succ_mul]; omega
theorem Z05 (c:List Cell):(flt c).length=sumL (fun x=>x.2.length) c:=by
 induction c with
 | nil=>rfl
 | cons x c ih=>rw [Zdx,List.length_append,List.length_map,ih,Zei]
theorem Zpp (x:Cell) (d:List Cell) (v:Int):(lk (x :: d) v).length=(if inR v x.1=true then x.2.length else 0) + (lk d v).length:=by
 rw [Zgf,List.length_append]
 cases inR v x.1 <;> simp
theorem sum_lk {M:Nat} (vs:List Int):∀(d:List Cell),(∀ x∈d,(vs.filter (inR · x.1)).length≤M)→sumL (fun v=>(lk d v).length) vs≤M * (flt d).length
 | [],_=>by
  have:sumL (fun v=>(lk ([]:List Cell) v).length) vs=0:=by
   rw [show (fun v:Int=>(lk ([]:List Cell) v).length)=fun _=>0 from rfl,Zsc]; simp
  omega
 | x :: d,h=>by
  have e:(fun v=>(lk (x :: d) v).length)=fun v=>(if inR v x.1=true then x.2.length else 0) + (lk d v).length:=funext fun v=>Zpp x d v
  have ih:=sum_lk vs d fun y hy=>h y (List.mem_cons_of_mem _ hy)
  have hx:=h x (List.mem_cons_self ..)
  rw [e,Zmv,Zxg (fun v=>inR v x.1),Zsc,Zdx,List.length_append,List.length_map,Nat.mul_add]
  have:=Nat.mul_le_mul_right x.2.length hx
  omega
theorem Zxh (vs:List Int) (d':List Cell):∀(d:List Cell),(∀ x∈d,∀ y∈d',((vs.filter (inR · x.1)).filter (inR · y.1)).length≤1)→sumL (fun v=>(lk d v).length * (lk d' v).length) vs≤(flt d).length * (flt d').length
 | [],_=>by
  have:sumL (fun v=>(lk ([]:List Cell) v).length * (lk d' v).length) vs=0:=by
   rw [show (fun v:Int=>(lk ([]:List Cell) v).length * (lk d' v).length)=fun v=>0 * (lk d' v).length from rfl,Zqt]; simp
  omega
 | x :: d,h=>by
  have e:(fun v=>(lk (x :: d) v).length * (lk d' v).length)=fun v=>(if inR v x.1=true then x.2.length * (lk d' v).length else 0) + (lk d v).length * (lk d' v).length:=funext fun v=>by
   rw [Zpp,Nat.add_mul]
   cases inR v x.1 <;> simp
  have ih:=Zxh vs d' d fun y hy=>h y (List.mem_cons_of_mem _ hy)
  have h1:=sum_lk (M:=1) (vs.filter (inR · x.1)) d' fun y hy=>h x (List.mem_cons_self ..) y hy
  rw [e,Zmv,Zxg (fun v=>inR v x.1) (fun v=>x.2.length * (lk d' v).length),Zqt,Zdx,List.length_append,List.length_map,Nat.add_mul]
  have:=Nat.mul_le_mul_left x.2.length h1
  rw [Nat.one_mul] at this
  omega
theorem Zt5 {l:List Int} (h:l.Pairwise (·<·)):l.Nodup:=h.imp fun h=>by omega
def ends2 (c:List Cell):List Int:=c.flatMap fun x=>[x.1.Lo,x.1.Hi + 1]
theorem Zy3 (c:List Cell):(ends2 c).length=2 * c.length:=by
 induction c with
 | nil=>rfl
 | cons x c ih=>unfold ends2 at *; rw [List.flatMap_cons,List.length_append,ih]; simp; omega
theorem Zqu {t:Int} {c:List Cell} (h:Ord t c) {x:Cell} (hx:x∈c) {v:Int} (hv:v∈ends2 c) (hr:inR v x.1=true):v=x.1.Lo:=by
 rw [Zd2] at hr
 obtain⟨y,hy,hvy⟩:=List.mem_flatMap.1 hv
 have hxo:=h.ok x hx
 have hyo:=h.ok y hy
 obtain⟨i,hi,rfl⟩:=List.getElem_of_mem hx
 obtain⟨j,hj,rfl⟩:=List.getElem_of_mem hy
 have hp:=List.pairwise_iff_getElem.1 h.pw
 simp only [List.mem_cons,List.not_mem_nil,or_false] at hvy
 rcases Nat.lt_trichotomy i j with h1 | h1 | h1
 ·have:=(hp i j hi hj h1).1
  omega
 ·subst h1; omega
 ·have:=(hp j i hj hi h1).1
  omega
theorem Zxi {t:Int} {c:List Cell} (h:Ord t c) {v:Int} (hv:¬ v∈ends2 c):lk c v=lk c (v - 1):=by
 have key:∀ x∈c,x.1.Lo ≠ v∧x.1.Hi + 1 ≠ v:=fun x hx=>⟨fun e=>hv (List.mem_flatMap.2 ⟨x,hx,by simp [e]⟩),fun e=>hv (List.mem_flatMap.2 ⟨x,hx,by simp [e]⟩)⟩
 clear h hv
 induction c with
 | nil=>rfl
 | cons x c ih=>
  rw [Zgf,Zgf,ih fun y hy=>key y (List.mem_cons_of_mem _ hy)]
  have:=key x (List.mem_cons_self ..)
  have e:inR v x.1=inR (v - 1) x.1:=by rw [Bool.eq_iff_iff,Zd2,Zd2]; omega
  rw [e]
theorem Zsd {op:Bool→Bool→Bool} (hff:op false false=false):∀(ts:List Int) {a b l:List RL},CF ts a→CF ts b→Is op ts a b l→l.length≤4 * ts.length * (a.length * b.length) + a.length + b.length
 | [],a,b,l,ha,hb,h=>by
  have hm:=h.mem [] trivial
  rcases ha with rfl | rfl <;> rcases hb with rfl | rfl <;> rcases h.cf with rfl | rfl <;> simp [mS,mB,hff] at hm ⊢
 | t :: ts,a,b,l,ha,hb,h=>by
  obtain⟨ca,rfl,hao,hac⟩:=ha
  obtain⟨cb,rfl,hbo,hbc⟩:=hb
  obtain⟨c,rfl,ho,hc⟩:=h.cf
  have hat:∀ v,0≤v→v≤t→Is op ts (lk ca v) (lk cb v) (lk c v):=fun v h0 h1=>by
   have:=Is.at_ ho hc h h0 h1
   rw [Ziv,Ziv] at this
   exact this
  have hvs:(c.map (·.1.Lo)).Pairwise (·<·):=by
   rw [List.pairwise_map]
   refine List.Pairwise.imp_of_mem ?_ ho.pw
   intro x y hx _ hg
   have:=ho.ok x hx
   have:=hg.1
   omega
  have hin:∀ v∈c.map (·.1.Lo),v∈ends2 ca∨v∈ends2 cb:=by
   intro v hv
   obtain⟨x,hx,rfl⟩:=List.mem_map.1 hv
   have hxo:=ho.ok x hx
   apply Classical.byContradiction
   intro hn
   have h1:¬ x.1.Lo∈ends2 ca:=fun h=>hn (Or.inl h)
   have h2:¬ x.1.Lo∈ends2 cb:=fun h=>hn (Or.inr h)
   have e1:=Zxi hao h1
   have e2:=Zxi hbo h2
   have hx1:lk c x.1.Lo=x.2:=lk_mem ho hx (Int.le_refl _) hxo.2.1
   have g1:=hat x.1.Lo hxo.1 (by omega)
   by_cases h0:x.1.Lo=0
   ·rw [e1,e2,lk_out hao (by omega),lk_out hbo (by omega)] at g1
    have:lk c x.1.Lo=[]:=g1.inj ⟨CF_nil _,fun p _=>by rw [mS_nil,hff]⟩
    rw [hx1] at this
    exact hxo.2.2.2 this
   ·have g2:=hat (x.1.Lo - 1) (by omega) (by omega)
    rw [e1,e2] at g1
    have e3:=g1.inj g2
    rw [hx1] at e3
    obtain⟨y,hy,h3,h4⟩:=Zkn (c:=c) (v:=x.1.Lo - 1) (by rw [← e3]; exact hxo.2.2.2)
    rw [lk_mem ho hy h3 h4] at e3
    obtain⟨i,hi,rfl⟩:=List.getElem_of_mem hx
    obtain⟨j,hj,rfl⟩:=List.getElem_of_mem hy
    have hp:=List.pairwise_iff_getElem.1 ho.pw
    rcases Nat.lt_trichotomy i j with h5 | h5 | h5
    ·have:=(hp i j hi hj h5).1; omega
    ·subst h5; omega
    ·have hg:=hp j i hj hi h5
     have:=hg.1
     exact hg.2 (by omega) e3.symm
  generalize hV:c.map (·.1.Lo)=vs at hvs hin
  have cnt:∀ {d d':List Cell},Ord t d→(∀ v∈vs,v∈ends2 d∨v∈ends2 d')→∀ x∈d,(vs.filter (inR · x.1)).length≤2 * d'.length + 1:=by
   intro d d' hd hdv x hx
   have hs:(vs.filter (inR · x.1)) ⊆ x.1.Lo :: ends2 d':=by
    intro v hv
    obtain⟨h1,h2⟩:=List.mem_filter.1 hv
    rcases hdv v h1 with h3 | h3
    ·rw [Zqu hd hx h3 h2]; exact List.mem_cons_self ..
    ·exact List.mem_cons_of_mem _ h3
   have:=List.Nodup.length_le_of_subset (Zt5 (hvs.filter _)) hs
   rw [List.length_cons,Zy3] at this
   exact this
  have s1:=sum_lk vs ca (cnt hao hin)
  have s2:=sum_lk vs cb (cnt hbo fun v hv=>(hin v hv).symm)
  have s3:=Zxh vs cb ca (fun x hx y hy=>by
   have hs:((vs.filter (inR · x.1)).filter (inR · y.1)) ⊆ [max x.1.Lo y.1.Lo]:=by
    intro v hv
    obtain⟨h1,h2⟩:=List.mem_filter.1 hv
    obtain⟨h3,h4⟩:=List.mem_filter.1 h1
    have h2':=Zd2.1 h2
    have h4':=Zd2.1 h4
    rw [List.mem_singleton]
    rcases hin v h3 with h5 | h5
    ·have:=Zqu hao hx h5 h4; omega
    ·have:=Zqu hbo hy h5 h2; omega
   have:=List.Nodup.length_le_of_subset (Zt5 ((hvs.filter _).filter _)) hs
   simpa using this)
  have total:(flt c).length≤sumL (fun v=>4 * ts.length * ((lk ca v).length * (lk cb v).length) + (lk ca v).length + (lk cb v).length) vs:=by
   rw [Z05,← hV]
   have e:∀(d:List Cell) (f:Int→Nat),sumL f (d.map (·.1.Lo))=sumL (fun x=>f x.1.Lo) d:=by
    intro d f
    induction d with
    | nil=>rfl
    | cons x d ih=>rw [List.map_cons,Zei,Zei,ih]
   rw [e]
   refine Z04 fun x hx=>?_
   have hxo:=ho.ok x hx
   have g1:=hat x.1.Lo hxo.1 (by omega)
   rw [lk_mem ho hx (Int.le_refl _) hxo.2.1] at g1
   exact Zsd hff ts (CF_lk hao hac _) (CF_lk hbo hbc _) g1
  rw [Zmv,Zmv,Zqt] at total
  have la:=hao.len
  have lb:=hbo.len
  have m3:=Nat.mul_le_mul_left (4 * ts.length) s3
  have n1:(2 * cb.length + 1) * (flt ca).length≤(2 * (flt cb).length + 1) * (flt ca).length:=Nat.mul_le_mul_right _ (by omega)
  have n2:(2 * ca.length + 1) * (flt cb).length≤(2 * (flt ca).length + 1) * (flt cb).length:=Nat.mul_le_mul_right _ (by omega)
  rw [Nat.add_mul,Nat.one_mul] at n1 n2
  have c1:2 * (flt cb).length * (flt ca).length=2 * ((flt ca).length * (flt cb).length):=by rw [Nat.mul_assoc,Nat.mul_comm (flt cb).length]
  have c2:2 * (flt ca).length * (flt cb).length=2 * ((flt ca).length * (flt cb).length):=by rw [Nat.mul_assoc]
  have n1':(2 * cb.length + 1) * (flt ca).length≤(2 * (flt cb).length) * (flt ca).length + (flt ca).length:=by
   have:=Nat.mul_le_mul_right (flt ca).length (show 2 * cb.length + 1≤2 * (flt cb).length + 1 by omega)
   rw [Nat.add_mul (2 * (flt cb).length),Nat.one_mul] at this
   exact this
  have n2':(2 * ca.length + 1) * (flt cb).length≤(2 * (flt ca).length) * (flt cb).length + (flt cb).length:=by
   have:=Nat.mul_le_mul_right (flt cb).length (show 2 * ca.length + 1≤2 * (flt ca).length + 1 by omega)
   rw [Nat.add_mul (2 * (flt ca).length),Nat.one_mul] at this
   exact this
  rw [c1] at n1'
  rw [c2] at n2'
  have fin:4 * (t :: ts).length * ((flt ca).length * (flt cb).length)=4 * ts.length * ((flt ca).length * (flt cb).length) + 4 * ((flt ca).length * (flt cb).length):=by
   rw [List.length_cons,Nat.mul_add,Nat.add_mul]
  omega
theorem Can.size {op:Bool→Bool→Bool} (hff:op false false=false) {a b l:List Bx} (ha:CFb a) (hb:CFb b) (h:Can op a b l):l.length≤20 * (a.length * b.length) + a.length + b.length:=by
 have:=Zsd hff tops5 ha hb h.is
 rw [List.length_map,List.length_map,List.length_map] at this
 exact this
theorem Can.size2 {op:Bool→Bool→Bool} (hff:op false false=false) {a b l:List Bx} (ha:CFb a) (hb:CFb b) (h:Can op a b l) (h1:a.length≤4096) (h2:b.length≤4096):l.length≤2000000000:=by
 have:=h.size hff ha hb
 have:=Nat.mul_le_mul h1 h2
 omega
end Go.AM
set_option maxRecDepth 100000
namespace Go.AM
open Go
noncomputable def can (op:Bool→Bool→Bool) (a b:List Bx):List Bx:=(Can.ex op a b).choose
theorem Zir (op:Bool→Bool→Bool) (a b:List Bx):Can op a b (can op a b):=(Can.ex op a b).choose_spec
theorem Can.eq {op:Bool→Bool→Bool} {a b l:List Bx} (h:Can op a b l):can op a b=l:=(Zir op a b).inj h
def oO (x y:Bool):Bool:=x || y
theorem opc0:opc 0=oO:=funext fun x=>funext fun y=>rfl
theorem Zt6:∀(ts:List Int) {b:RL},vR ts b→CF ts [b]
 | [],b,h=>by
  cases b with
  | nil=>exact .inr rfl
  | cons _ _=>exact h.elim
 | t :: ts,b,h=>by
  cases b with
  | nil=>exact h.elim
  | cons r b=>
   obtain⟨h0,h1,h2,h3⟩:=h
   refine⟨[(r,[b])],rfl,⟨List.pairwise_singleton ..,fun x hx=>?_⟩,fun x hx=>?_⟩
   ·rw [List.mem_singleton] at hx; subst hx; exact⟨h0,h1,h2,List.cons_ne_nil _ _⟩
   ·rw [List.mem_singleton] at hx; subst hx; exact Zt6 ts h3
theorem ok_vR {b:Bx} (h:BOk b):vR tops5 (toL b):=
 ⟨h.h0.h0,h.h0.h1,h.h0.h2,h.h1.h0,h.h1.h1,h.h1.h2,h.h2.h0,h.h2.h1,h.h2.h2,h.h3.h0,h.h3.h1,h.h3.h2,h.h4.h0,h.h4.h1,h.h4.h2,trivial⟩
theorem CFb.single {b:Bx} (h:BOk b):CFb [b]:=Zt6 tops5 (ok_vR h)
noncomputable def mkF:List Bx→List Bx→List Bx × Int
 | s,[]=>(s,0)
 | s,b :: l=>if (can oO s [b]).length≤4096 then mkF (can oO s [b]) l else ([],3)
noncomputable def mk (l:List Bx):List Bx × Int:=mkF [] (l.filter vB)
theorem combO {a b:List Bx} (hl:a.length + b.length≤400000) (ha:∀ x∈a,BOk x) (hb:∀ x∈b,BOk x):Zbt a b=some (capB (can oO a b)):=Zs6 hl ha hb (Zir oO a b)
theorem Z06 (r:List Bx) (hr:r.length≤1000000) (hok:∀ x∈r,BOk x):∀(K i n:Nat) (s:List Bx),r.length - i=K→K<n→VS s→i≤r.length→∃ o,Zdb r n s (i:Int)=some o∧mkF s (r.drop i)=match o with
   | .inl v=>(v,0)
   | .inr z=>z:=by
 intro K
 induction K with
 | zero=>
  intro i n s hK hn hs hi
  cases n with
  | zero=>omega
  | succ n=>
  rw [Zdb,if_neg (by simp; omega),List.drop_eq_nil_of_le (by omega)]
  exact⟨_,rfl,rfl⟩
 | succ K ih=>
  intro i n s hK hn hs hi
  cases n with
  | zero=>omega
  | succ n=>
  have hil:i<r.length:=by omega
  have hb:=hok _ (List.getElem_mem hil)
  have hsl:=hs.len
  rw [Zdb,if_pos (by simp; omega),Zal hil]
  simp only [Option.bind_some]
  rw [combO (by simp; omega) hs.ok (fun x hx=>by rw [List.mem_singleton] at hx; rw [hx]; exact hb)]
  rw [List.drop_eq_getElem_cons hil]
  simp only [Option.bind_some,capB,mkF]
  by_cases h:(can oO s [r[i]]).length≤4096
  ·rw [if_pos h,if_pos h]
   simp only [bne_self_eq_false,Bool.false_eq_true,if_false]
   rw [wsucc (by omega)]
   exact ih (i + 1) n _ (by omega) (by omega) (VS.of (Zir oO s [r[i]]).cf h) (by omega)
  ·rw [if_neg h,if_neg h]
   exact⟨_,rfl,rfl⟩
theorem VS.nil:VS []:=⟨by simp,fun _ h=>(by cases h),CFb.nil⟩
theorem Zz7 {l:List Bx} (hl:l.length≤1000000) (hin:∀ x∈l,BIn x):Zf1 l=some (mk l):=by
 unfold Zf1
 rw [Zt0 (by omega)]
 simp only [Option.bind_some]
 have hfl:=List.length_filter_le vB l
 obtain⟨o,e,g⟩:=Z06 (l.filter vB) (by omega) (fun x hx=>by
  obtain⟨h1,h2⟩:=List.mem_filter.1 hx
  exact vB_ok (hin x h1) h2) _ 0 fuel [] rfl (by unfold fuel; omega) VS.nil (by omega)
 rw [show ((0:Nat):Int)=0 from rfl] at e
 rw [e]
 rw [List.drop_zero] at g
 unfold mk
 rw [g]
 cases o <;> rfl
theorem Z07 (r:List Bx) (hr:r.length≤300000) (hin:∀ x∈r,BIn x):∀(K i n:Nat) (s:List Bx),r.length - i=K→K<n→VS s→i≤r.length→∃ o,Zdu r n s (i:Int)=some o∧mkF s ((r.drop i).filter vB)=match o with
   | .inl v=>(v,0)
   | .inr z=>z:=by
 intro K
 induction K with
 | zero=>
  intro i n s hK hn hs hi
  cases n with
  | zero=>omega
  | succ n=>
  rw [Zdu,if_neg (by simp; omega),List.drop_eq_nil_of_le (by omega)]
  exact⟨_,rfl,rfl⟩
 | succ K ih=>
  intro i n s hK hn hs hi
  cases n with
  | zero=>omega
  | succ n=>
  have hil:i<r.length:=by omega
  have hsl:=hs.len
  have hpart:List.drop i (List.take (i + 1) r)=[r[i]]:=by
   rw [List.drop_take,show i + 1 - i=1 by omega,List.drop_eq_getElem_cons hil]
   rfl
  rw [Zdu,if_pos (by simp; omega),Zal hil]
  simp only [Option.bind_some,Ztv]
  rw [wsucc (by omega),List.drop_eq_getElem_cons hil,List.filter_cons]
  simp only [Int.toNat_natCast,hpart]
  by_cases hv:vB r[i]=true
  ·have hb:BOk r[i]:=vB_ok (hin _ (List.getElem_mem hil)) hv
   rw [hv]
   simp only [Bool.not_true,Bool.false_eq_true,if_false,if_true]
   rw [if_pos ⟨by omega,by omega,by omega⟩]
   have hC:=Zir oO s [r[i]]
   rw [Zt3 (k:=0) (by simp; omega) hs.ok (fun x hx=>by rw [List.mem_singleton] at hx; rw [hx]; exact hb) (by rw [opc0]; exact hC) (hC.size2 rfl hs.cf (CFb.single hb) hs.len (by simp))]
   simp only [Option.bind_some,Zr9,capB,mkF]
   by_cases h:(can oO s [r[i]]).length≤4096
   ·rw [if_pos h,if_pos h]
    simp only [bne_self_eq_false,Bool.false_eq_true,if_false,Option.bind_some]
    exact ih (i + 1) n _ (by omega) (by omega) (VS.of (Zir oO s [r[i]]).cf h) (by omega)
   ·rw [if_neg h,if_neg h]
    exact⟨_,rfl,rfl⟩
  ·rw [Bool.not_eq_true] at hv
   rw [hv]
   simp only [Bool.not_false,if_true,Option.bind_some,Bool.false_eq_true,if_false]
   exact ih (i + 1) n _ (by omega) (by omega) hs (by omega)
theorem Zv0 {l:List Bx} (hl:l.length≤300000) (hin:∀ x∈l,BIn x):Zfw l=some (mk l):=by
 unfold Zfw
 obtain⟨o,e,g⟩:=Z07 l hl hin _ 0 fuel [] rfl (by unfold fuel; omega) VS.nil (by omega)
 rw [show ((0:Nat):Int)=0 from rfl] at e
 rw [e]
 rw [List.drop_zero] at g
 unfold mk
 rw [g]
 cases o <;> rfl
noncomputable def vSb (l:List Bx):Bool:=@decide (VS l) (Classical.propDecidable _)
theorem Zoi {l:List Bx}:vSb l=true ↔ VS l:=by unfold vSb; exact @decide_eq_true_iff _ (Classical.propDecidable _)
theorem Zxj {r:Bool} {p:Prop} {q:Bool} (h1:r=true ↔ p) (h2:q=true ↔ p):r=q:=by
 rw [Bool.eq_iff_iff,h1,h2]
theorem pVal {l:List Bx} (hl:l.length≤300000) (hin:∀ x∈l,BIn x):Zew l=some (vSb l):=by
 obtain⟨r,e,g⟩:=Zy1 (by omega) hin
 rw [e,Zxj g Zoi]
theorem rVal {l:List Bx} (hl:l.length≤300000) (hin:∀ x∈l,BIn x):Zff l=some (vSb l):=by
 obtain⟨r,e,g⟩:=Zx9 (by omega) hin
 rw [e,Zxj g Zoi]
noncomputable def st (l:List Bx):List Bx × Int:=if vSb l=true then (l,0) else mk l
theorem Zt7 {l:List Bx} (hl:l.length≤300000) (hin:∀ x∈l,BIn x):Zfg l=some (st l):=by
 unfold Zfg st
 rw [rVal hl hin]
 simp only [Option.bind_some]
 split
 ·rfl
 ·rw [Zv0 (by omega) hin]; rfl
theorem Z08 (a b:List Bx) (p:List Int):mem (a++b) p=(mem a p || mem b p):=by unfold mem; rw [List.map_append,mS_app]
structure SetOr (r:List Bx × Int):Prop where
 vs:VS r.1
 err:r.2=0∨r=([],3)
theorem mkF_ok:∀(l s:List Bx),VS s→SetOr (mkF s l)∧((mkF s l).2=0→∀ p,vP tops5 p→mem (mkF s l).1 p=(mem s p || mem l p))
 | [],s,hs=>⟨⟨hs,Or.inl rfl⟩,fun _ p _=>by rw [Zs5,Bool.or_false]; rfl⟩
 | b :: l,s,hs=>by
  simp only [mkF]
  by_cases h:(can oO s [b]).length≤4096
  ·rw [if_pos h]
   have hC:=Zir oO s [b]
   obtain⟨g1,g2⟩:=mkF_ok l (can oO s [b]) (VS.of hC.cf h)
   refine⟨g1,fun h0 p hp=>?_⟩
   rw [g2 h0 p hp,hC.mem p hp,show b :: l=[b]++l from rfl,Z08 [b] l,oO,Bool.or_assoc]
  ·rw [if_neg h]
   exact⟨⟨VS.nil,Or.inr rfl⟩,fun h=>by cases h⟩
theorem st_ok (l:List Bx):SetOr (st l)∧((st l).2=0→∀ p,vP tops5 p→mem (st l).1 p=mem (l.filter vB) p):=by
 unfold st
 by_cases h:vSb l=true
 ·rw [if_pos h]
  have hv:=Zoi.1 h
  refine⟨⟨hv,Or.inl rfl⟩,fun _ p _=>?_⟩
  rw [List.filter_eq_self.2 fun x hx=>ok_vB (hv.ok x hx)]
 ·rw [if_neg h]
  obtain⟨g1,g2⟩:=mkF_ok (l.filter vB) [] VS.nil
  exact⟨g1,fun h0 p hp=>by unfold mk; rw [g2 h0 p hp,Zs5,Bool.false_or]⟩
theorem Zxk {l:List Bx} (h:VS l):st l=(l,0):=by unfold st; rw [if_pos (Zoi.2 h)]
noncomputable def cmb (op:Bool→Bool→Bool) (a b:List Bx):List Bx × Int:=
 if (st a).2 ≠ 0 then ([],(st a).2) else if (st b).2 ≠ 0 then ([],(st b).2) else capB (can op (st a).1 (st b).1)
theorem SetOr.three {r:List Bx × Int} (h:SetOr r) (hr:r.2 ≠ 0):r=([],3):=h.err.resolve_left hr
theorem Zwt {k:Int} {a b:List Bx} (ha:a.length≤300000) (hb:b.length≤300000) (hai:∀ x∈a,BIn x) (hbi:∀ x∈b,BIn x):Zfr a b k=some (cmb (opc k) a b):=by
 have sa:=(st_ok a).1.vs
 have sb:=(st_ok b).1.vs
 have la:=sa.len
 have lb:=sb.len
 unfold Zfr cmb
 rw [Zt7 ha hai]
 simp only [Option.bind_some,bne_iff_ne]
 split
 ·rfl
 ·rw [Zt7 hb hbi]
  simp only [Option.bind_some]
  split
  ·rfl
  ·have hC:=Zir (opc k) (st a).1 (st b).1
   rw [Zt3 (by omega) sa.ok sb.ok hC (hC.size2 (opc_ff k) sa.cf sb.cf sa.len sb.len)]
   simp only [Option.bind_some,Zr9]
theorem Zy4 {a b:List Bx} (ha:a.length≤300000) (hb:b.length≤300000) (hai:∀ x∈a,BIn x) (hbi:∀ x∈b,BIn x):Zgj a b=some (cmb oO a b):=by
 unfold Zgj; rw [Zwt ha hb hai hbi,opc0]; rfl
theorem Zz8 (a:List Bx):cmb oO a []=st a:=by
 have ha:=st_ok a
 unfold cmb
 rw [Zxk VS.nil]
 by_cases h1:(st a).2 ≠ 0
 ·rw [if_pos h1,ha.1.three h1]
 ·rw [if_neg h1,if_neg (by simp)]
  have:can oO (st a).1 []=(st a).1:=(Can.right (fun x=>by cases x <;> rfl) ha.1.vs.cf).eq
  rw [this]
  unfold capB
  rw [if_pos ha.1.vs.len]
  have h2:(st a).2=0:=by simpa using h1
  rw [← h2]
end Go.AM
set_option maxRecDepth 100000
namespace Go.AM
open Go
def wd (r:Zb):Int:=r.Hi - r.Lo + 1
def vol:RL→Int
 | []=>1
 | r :: b=>wd r * vol b
def V:List RL→Int
 | []=>0
 | b :: l=>vol b + V l
def bel:RL→List Int→Int
 | r :: b,x :: h=>(if r.Lo<x then vol b * min (x - r.Lo) (wd r) else 0) + (if inR x r=true then bel b h else 0)
 | _,_=>0
def R:List RL→List Int→Int
 | [],_=>0
 | b :: l,h=>bel b h + R l h
theorem V_app (a b:List RL):V (a++b)=V a + V b:=by
 induction a with
 | nil=>simp [V]
 | cons x a ih=>simp only [List.cons_append,V,ih]; omega
theorem R_app (a b:List RL) (h:List Int):R (a++b) h=R a h + R b h:=by
 induction a with
 | nil=>simp [R]
 | cons x a ih=>simp only [List.cons_append,R,ih]; omega
theorem V_map (r:Zb) (l:List RL):V (l.map (r :: ·))=wd r * V l:=by
 induction l with
 | nil=>simp [V]
 | cons x a ih=>simp only [List.map_cons,V,ih,vol,Int.mul_add]
theorem R_map (r:Zb) (l:List RL) (x:Int) (h:List Int):R (l.map (r :: ·)) (x :: h)=(if r.Lo<x then V l * min (x - r.Lo) (wd r) else 0) + (if inR x r=true then R l h else 0):=by
 induction l with
 | nil=>simp [R,V]
 | cons b a ih=>
  simp only [List.map_cons,R,ih,bel,V,Int.add_mul]
  split <;> split <;> omega
def sm (f:Nat→Int):Nat→Int
 | 0=>0
 | n + 1=>sm f n + f n
theorem Zv1 {f g:Nat→Int}:∀ {n:Nat},(∀ i,i<n→f i=g i)→sm f n=sm g n
 | 0,_=>rfl
 | n + 1,h=>by rw [sm,sm,h n (by omega),Zv1 fun i hi=>h i (by omega)]
theorem sm_add (f g:Nat→Int):∀ n,sm (fun i=>f i + g i) n=sm f n + sm g n
 | 0=>rfl
 | n + 1=>by rw [sm,sm,sm,sm_add f g n]; omega
theorem Zxl:∀ n,sm (fun _=>0) n=0
 | 0=>rfl
 | n + 1=>by rw [sm,Zxl n]; rfl
theorem Zoa {f:Nat→Int}:∀ {n:Nat},(∀ i,i<n→0≤f i)→0≤sm f n
 | 0,_=>by rw [sm]; omega
 | n + 1,h=>by
  have:=Zoa (n:=n) fun i hi=>h i (by omega)
  have:=h n (by omega)
  rw [sm]; omega
theorem Zxm {f:Nat→Int} (h:∀ i,0≤f i) {m n:Nat} (hmn:m≤n):sm f m≤sm f n:=by
 induction n with
 | zero=>rw [show m=0 by omega]; omega
 | succ n ih=>
  by_cases e:m=n + 1
  ·rw [e]; omega
  ·have:=ih (by omega)
   have:=h n
   rw [sm]; omega
theorem sm_ind (k:Int) {r:Zb} (h0:0≤r.Lo) (h1:r.Lo≤r.Hi):∀ n:Nat,sm (fun v=>if inR (v:Int) r=true then k else 0) n=if r.Lo<n then k * min ((n:Int) - r.Lo) (wd r) else 0
 | 0=>by rw [sm,if_neg (by omega)]
 | n + 1=>by
  rw [sm,sm_ind k h0 h1 n]
  simp only [Zd2]
  unfold wd
  by_cases a:r.Lo<n
  ·rw [if_pos a,if_pos (show r.Lo<((n + 1:Nat):Int) by omega)]
   by_cases b:(n:Int)≤r.Hi
   ·rw [if_pos ⟨by omega,b⟩,Int.min_eq_left (by omega),Int.min_eq_left (by omega),show ((n + 1:Nat):Int) - r.Lo=((n:Int) - r.Lo) + 1 by omega,Int.mul_add,Int.mul_one]
   ·rw [if_neg (by omega),Int.min_eq_right (by omega),Int.min_eq_right (by omega),Int.add_zero]
  ·rw [if_neg a]
   by_cases b:(n:Int)=r.Lo
   ·rw [if_pos (by omega),if_pos (by omega),Int.min_eq_left (by omega),show ((n + 1:Nat):Int) - r.Lo=1 by omega,Int.mul_one,Int.zero_add]
   ·rw [if_neg (by omega),if_neg (by omega)]; rfl
theorem Zy5 (x:Cell) (c:List Cell) (v:Int):V (lk (x :: c) v)=(if inR v x.1=true then V x.2 else 0) + V (lk c v):=by
 rw [Zgf,V_app]
 split <;> rfl
theorem Zy6 (x:Cell) (c:List Cell) (v:Int) (h:List Int):R (lk (x :: c) v) h=(if inR v x.1=true then R x.2 h else 0) + R (lk c v) h:=by
 rw [Zgf,R_app]
 split <;> rfl
def A (c:List Cell) (n:Nat):Int:=sm (fun v=>V (lk c (v:Int))) n
theorem A_nil (n:Nat):A [] n=0:=by unfold A; rw [← Zxl n]; rfl
theorem A_cons {x:Cell} (c:List Cell) (h0:0≤x.1.Lo) (h1:x.1.Lo≤x.1.Hi) (n:Nat):A (x :: c) n=(if x.1.Lo<n then V x.2 * min ((n:Int) - x.1.Lo) (wd x.1) else 0) + A c n:=by
 unfold A
 rw [← sm_ind (V x.2) h0 h1 n,← sm_add]
 exact Zv1 fun i _=>Zy5 x c i
theorem V_flt {t:Int}:∀ {c:List Cell},(∀ x∈c,0≤x.1.Lo∧x.1.Lo≤x.1.Hi∧x.1.Hi≤t)→∀ {n:Nat},t<n→V (flt c)=A c n
 | [],_,n,_=>by rw [A_nil]; rfl
 | x :: c,h,n,hn=>by
  have hx:=h x (List.mem_cons_self ..)
  rw [Zdx,V_app,V_map,A_cons c hx.1 hx.2.1,V_flt (fun y hy=>h y (List.mem_cons_of_mem _ hy)) hn,if_pos (by omega),Int.min_eq_right (by unfold wd; omega),Int.mul_comm]
theorem R_flt {t:Int}:∀ {c:List Cell},(∀ x∈c,0≤x.1.Lo∧x.1.Lo≤x.1.Hi∧x.1.Hi≤t)→∀(n:Nat) (h:List Int),R (flt c) ((n:Int) :: h)=A c n + R (lk c n) h
 | [],_,n,h=>by rw [A_nil]; rfl
 | x :: c,hc,n,h=>by
  have hx:=hc x (List.mem_cons_self ..)
  rw [Zdx,R_app,R_map,A_cons c hx.1 hx.2.1,R_flt (fun y hy=>hc y (List.mem_cons_of_mem _ hy)) n h,Zy6]
  omega
structure Cl (t:Int) (ts:List Int) (l:List RL) (g:Nat→List RL):Prop where
 cf:∀ n,CF ts (g n)
 ms:∀(n:Nat) p,mS l ((n:Int) :: p)=mS (g n) p
 v:∀ {n:Nat},t<n→V l=sm (fun i=>V (g i)) n
 r:∀(n:Nat) h,R l ((n:Int) :: h)=sm (fun i=>V (g i)) n + R (g n) h
theorem CF.cl {t:Int} {ts:List Int} {l:List RL} (h:CF (t :: ts) l):∃ g,Cl t ts l g:=by
 obtain⟨c,rfl,ho,hc⟩:=h
 have hb:∀ x∈c,0≤x.1.Lo∧x.1.Lo≤x.1.Hi∧x.1.Hi≤t:=fun x hx=>⟨(ho.ok x hx).1,(ho.ok x hx).2.1,(ho.ok x hx).2.2.1⟩
 exact⟨fun n=>lk c n,fun n=>CF_lk ho hc _,fun n p=>by rw [Zhc,Ziv],fun hn=>V_flt hb hn,fun n h=>R_flt hb n h⟩
theorem V_zero {l:List RL} (h:CF [] l):V l=if mS l []=true then 1 else 0:=by
 rcases h with rfl | rfl <;> rfl
theorem Zy7 {l:List RL} (h:CF [] l):R l []=0:=by
 rcases h with rfl | rfl <;> rfl
theorem Zk0:∀(ts:List Int) {l:List RL},(∀ t∈ts,0≤t)→CF ts l→0≤V l
 | [],l,_,h=>by rw [V_zero h]; split <;> omega
 | t :: ts,l,h0,h=>by
  obtain⟨g,hg⟩:=h.cl
  have ht:=h0 t (List.mem_cons_self ..)
  rw [hg.v (n:=(t + 1).toNat) (by omega)]
  exact Zoa fun i _=>Zk0 ts (fun x hx=>h0 x (List.mem_cons_of_mem _ hx)) (hg.cf i)
def b1 (b:Bool):Int:=if b=true then 1 else 0
theorem b1_01 (b:Bool):0≤b1 b∧b1 b≤1:=by cases b <;> decide
theorem Zoj:∀(ts:List Int) {l:List RL} {p:List Int},(∀ t∈ts,0≤t)→CF ts l→vP ts p→0≤R l p∧R l p + b1 (mS l p)≤V l
 | [],l,[],_,h,_=>by
  rw [V_zero h,Zy7 h]
  exact⟨by omega,by unfold b1; omega⟩
 | [],_,_ :: _,_,_,h=>h.elim
 | _ :: _,_,[],_,_,h=>h.elim
 | t :: ts,l,x :: p,h0,h,hp=>by
  obtain⟨g,hg⟩:=h.cl
  obtain⟨p0,p1,p2⟩:=hp
  have h0':∀ t∈ts,0≤t:=fun x hx=>h0 x (List.mem_cons_of_mem _ hx)
  obtain⟨n,rfl⟩:∃ n:Nat,x=n:=⟨x.toNat,by omega⟩
  obtain⟨i1,i2⟩:=Zoj ts h0' (hg.cf n) p2
  have nn:∀ i,0≤V (g i):=fun i=>Zk0 ts h0' (hg.cf i)
  have m:=Zxm nn (show n + 1≤(t + 1).toNat by omega)
  have m0:0≤sm (fun i=>V (g i)) n:=Zoa fun i _=>nn i
  rw [hg.r,hg.ms,hg.v (n:=(t + 1).toNat) (by omega)]
  rw [sm] at m
  omega
def ltL:List Int→List Int→Prop
 | x :: g,y :: h=>x<y∨(x=y∧ltL g h)
 | _,_=>False
theorem Zok:∀(ts:List Int) {l:List RL} {p q:List Int},(∀ t∈ts,0≤t)→CF ts l→vP ts p→vP ts q→ltL p q→R l p + b1 (mS l p)≤R l q
 | [],_,[],[],_,_,_,_,h=>h.elim
 | [],_,_ :: _,_,_,_,h,_,_=>h.elim
 | [],_,[],_ :: _,_,_,_,h,_=>h.elim
 | _ :: _,_,[],_,_,_,h,_,_=>h.elim
 | _ :: _,_,_ :: _,[],_,_,_,h,_=>h.elim
 | t :: ts,l,x :: p,y :: q,h0,h,hp,hq,hlt=>by
  obtain⟨g,hg⟩:=h.cl
  obtain⟨p0,p1,p2⟩:=hp
  obtain⟨q0,q1,q2⟩:=hq
  have h0':∀ t∈ts,0≤t:=fun x hx=>h0 x (List.mem_cons_of_mem _ hx)
  obtain⟨n,rfl⟩:∃ n:Nat,x=n:=⟨x.toNat,by omega⟩
  obtain⟨m,rfl⟩:∃ m:Nat,y=m:=⟨y.toNat,by omega⟩
  rw [hg.r,hg.r,hg.ms]
  rcases hlt with h1 | ⟨h1,h2⟩
  ·have nn:∀ i,0≤V (g i):=fun i=>Zk0 ts h0' (hg.cf i)
   have mm:=Zxm nn (show n + 1≤m by omega)
   have i1:=(Zoj ts h0' (hg.cf n) p2).2
   have i2:=(Zoj ts h0' (hg.cf m) q2).1
   rw [sm] at mm
   omega
  ·have e:n=m:=by omega
   subst e
   have:=Zok ts h0' (hg.cf n) p2 q2 h2
   omega
end Go.AM
set_option maxRecDepth 100000
namespace Go.AM
open Go
theorem M_fuel:∃ f,fuel=f + 4:=⟨1180591620717411303420,rfl⟩
instance:DecidableEq Zf:=fun a b=>decidable_of_iff (a.Hi=b.Hi∧a.Lo=b.Lo) (by cases a; cases b; simp)
def cmp3 (x y:Int):Int:=if x<y then -1 else if x > y then 1 else 0
theorem Zse {n:Int} (h1:-9223372036854775808≤n) (h2:n<9223372036854775808):IntKind.wrap .i64 n=n:=by
 simp only [IntKind.wrap,IntKind.bits,IntKind.signed]
 simp
 omega
theorem M_cmp (a b:Int):Zdq a b=some (if a<b then -1 else if a > b then 1 else 0):=by
 simp only [Zdq,Zcw,Option.bind_some,bne_self_eq_false,Bool.false_eq_true,if_false,decide_eq_true_eq]
 split
 ·rfl
 ·split <;> rfl
theorem M_or (x y:Int):Zhq [x,y]=some (if x ≠ 0 then x else y):=by
 obtain⟨f,hf⟩:=M_fuel
 simp only [Zhq,hf]
 have w1:IntKind.wrap .i64 1=1:=Zse (by omega) (by omega)
 have w2:IntKind.wrap .i64 2=2:=Zse (by omega) (by omega)
 by_cases hx:x=0
 ·subst hx
  by_cases hy:y=0
  ·subst hy
   simp [Zeq,idx,w1,w2]
  ·simp [Zeq,idx,w1,w2,hy]
 ·simp [Zeq,idx,hx]
def cnum (c:Zf):Int:=c.Hi * 18446744073709551616 + c.Lo
theorem Zlv {a b:Zf} (ha:Zd3 a) (hb:Zd3 b):Zdi a b=some (cmp3 (cnum a) (cnum b)):=by
 simp only [Zdi,M_cmp,M_or,Option.bind_some]
 obtain⟨h1,h2,_⟩:=ha
 obtain⟨h3,h4,_⟩:=hb
 unfold Zg0 at h1 h2 h3 h4
 unfold cmp3 cnum
 congr 1
 rcases Int.lt_trichotomy a.Hi b.Hi with h | h | h
 ·have k:a.Hi * 18446744073709551616 + a.Lo<b.Hi * 18446744073709551616 + b.Lo:=by omega
  simp [h,k]
 ·rw [h]
  rcases Int.lt_trichotomy a.Lo b.Lo with k | k | k
  ·simp [k]
  ·simp [k]
  ·have k1:¬ a.Lo<b.Lo:=by omega
   simp [k,k1]
 ·have n1:¬ a.Hi<b.Hi:=by omega
  have k:¬ a.Hi * 18446744073709551616 + a.Lo<b.Hi * 18446744073709551616 + b.Lo:=by omega
  have k':a.Hi * 18446744073709551616 + a.Lo > b.Hi * 18446744073709551616 + b.Lo:=by omega
  simp [h,n1,k,k']
end Go.AM
set_option maxRecDepth 100000
namespace Go.AM
open Go
theorem bindC {α β:Type} {x:Option α} {a:α} (h:x=some a) (f:α→Option β):x.bind f=f a:=by rw [h]; rfl
def cN (n:Int):Zf:=⟨n / 18446744073709551616,n % 18446744073709551616⟩
theorem cN_ok {n:Int} (h0:0≤n) (h1:n<340282366920938463463374607431768211456):Zd3 (cN n):=by
 unfold cN
 refine⟨?_,?_,trivial⟩ <;> simp only [Zg0] <;> omega
theorem cN_num (n:Int):cnum (cN n)=n:=by unfold cnum cN; simp only; omega
theorem cN_of {c:Zf} (h:Zd3 c):c=cN (cnum c):=by
 obtain⟨a,b⟩:=c
 obtain⟨h1,h2,_⟩:=h
 unfold Zg0 at h1 h2
 unfold cN cnum
 simp only [Zf.mk.injEq] at *
 omega
theorem Z09 {c:Zf} (h:Zd3 c):0≤cnum c∧cnum c<340282366920938463463374607431768211456:=by
 obtain⟨a,b⟩:=c
 obtain⟨h1,h2,_⟩:=h
 unfold Zg0 at h1 h2
 unfold cnum
 simp only at *
 omega
theorem Z1h (a b:Zf):Zi6 a b=decide (a=b):=by
 obtain⟨a1,a2⟩:=a
 obtain⟨b1,b2⟩:=b
 rw [Bool.eq_iff_iff]
 simp [Zi6]
theorem Zs7 {a b:Int} (ha:0≤a) (hb:0≤b) (h:a + b<340282366920938463463374607431768211456):Zed (cN a) (cN b)=some (cN (a + b)):=by
 unfold Zed cN
 simp only
 rw [if_pos (by omega),if_pos (by omega)]
 congr 2 <;> omega
theorem shr32 (a:Nat):bShr .u64 (a:Int) (32:Int)=((a / 4294967296:Nat):Int):=Zmt a 32 (by omega)
theorem mask32 (a:Nat) (ha:a<18446744073709551616):bAnd .u64 (a:Int) (4294967295:Int)=((a % 4294967296:Nat):Int):=by
 have h:=Zvn (x:=a) (y:=4294967295) ha (by omega)
 have e:a &&& 4294967295=a % 4294967296:=Nat.and_two_pow_sub_one_eq_mod a 32
 rw [e] at h
 exact h
theorem mulN (a b:Nat):(a:Int) * (b:Int)=((a * b:Nat):Int):=(Int.natCast_mul a b).symm
theorem addN (a b:Nat):(a:Int) + (b:Int)=((a + b:Nat):Int):=(Int.natCast_add a b).symm
theorem wrapN (a:Nat) (ha:a<18446744073709551616):IntKind.wrap .u64 (a:Int)=(a:Int):=wu64 (by omega) (by omega)
theorem wrapM (a:Nat):IntKind.wrap .u64 (a:Int)=((a % 18446744073709551616:Nat):Int):=by
 rw [wrap_u .u64 64 rfl rfl]; omega
theorem Zv2 (x y:Nat) (hx:x<18446744073709551616) (hy:y<18446744073709551616):Zex (x:Int) (y:Int)=some (((x * y / 18446744073709551616:Nat):Int),((x * y % 18446744073709551616:Nat):Int)):=by
 obtain⟨bd,bt,bw,hhi⟩:=Lib.mul64_hi x y hx hy
 have ba:=Lib.half_mul_le (a:=x / 4294967296) (b:=y / 4294967296) (by omega) (by omega)
 have bb:=Lib.half_mul_le (a:=x / 4294967296) (b:=y % 4294967296) (by omega) (by omega)
 have bc:=Lib.half_mul_le (a:=x % 4294967296) (b:=y / 4294967296) (by omega) (by omega)
 have ba':x / 4294967296 * (y / 4294967296)<18446744073709551616:=by omega
 have bb':x / 4294967296 * (y % 4294967296)<18446744073709551616:=by omega
 have bc':x % 4294967296 * (y / 4294967296)<18446744073709551616:=by omega
 have bh1:x / 4294967296 * (y / 4294967296) + (x / 4294967296 * (y % 4294967296) + x % 4294967296 * (y % 4294967296) / 4294967296) / 4294967296<18446744073709551616:=by omega
 have bh:x / 4294967296 * (y / 4294967296) + (x / 4294967296 * (y % 4294967296) + x % 4294967296 * (y % 4294967296) / 4294967296) / 4294967296 + ((x / 4294967296 * (y % 4294967296) + x % 4294967296 * (y % 4294967296) / 4294967296) % 4294967296 + x % 4294967296 * (y / 4294967296)) / 4294967296<18446744073709551616:=by omega
 unfold Zex
 simp only [mask32 x hx,mask32 y hy,shr32,mulN,addN,wrapN _ bd,wrapN _ bb',wrapN _ bt,mask32 _ bt,wrapN _ bc',wrapN _ bw,wrapN _ ba',wrapN _ bh1,wrapN _ bh,wrapM (x * y)]
 rw [hhi]
theorem Zk1 {a n:Int} (ha:0≤a) (hn:0≤n) (hn1:n<18446744073709551616) (h:a * n<340282366920938463463374607431768211456) (ha1:a<340282366920938463463374607431768211456):∃ b,Zch (cN a) n=some (cN (a * n),b):=by
 obtain⟨a,rfl⟩:∃ m:Nat,a=m:=⟨a.toNat,by omega⟩
 obtain⟨n,rfl⟩:∃ m:Nat,n=m:=⟨n.toNat,by omega⟩
 have e:a * n=(a / 18446744073709551616 * n) * 18446744073709551616 + (a % 18446744073709551616) * n:=by
  have h1:a=a / 18446744073709551616 * 18446744073709551616 + a % 18446744073709551616:=by omega
  have h2:a * n=(a / 18446744073709551616 * 18446744073709551616 + a % 18446744073709551616) * n:=by rw [← h1]
  rw [h2,Nat.add_mul,Nat.mul_right_comm]
 rw [mulN] at h ⊢
 unfold Zch
 have e1:(cN (a:Int)).Lo=((a % 18446744073709551616:Nat):Int):=rfl
 have e2:(cN (a:Int)).Hi=((a / 18446744073709551616:Nat):Int):=rfl
 rw [e1,e2,Zv2 _ _ (by omega) (by omega),Zv2 _ _ (by omega) (by omega)]
 simp only [Option.bind_some]
 rw [if_pos (by omega)]
 refine⟨_,congrArg (fun c=>some (c,_)) (?_:_=cN _)⟩
 unfold cN
 simp only [Zf.mk.injEq]
 rw [e] at h ⊢
 generalize a / 18446744073709551616 * n=P at *
 generalize a % 18446744073709551616 * n=Q at *
 omega
theorem Zlw {t:Int} {r:Zb} (h:ROk t r) (ht:t<4294967296):Zcr r=some (wd r):=by
 have:=h.h0
 have:=h.h1
 have:=h.h2
 unfold Zcr wd
 rw [wu64 (x:=r.Hi) (by omega) (by omega),wu64 (x:=r.Lo) (by omega) (by omega),wu64 (x:=r.Hi - r.Lo) (by omega) (by omega),wu64 (by omega) (by omega)]
def prodT:List Int→Int
 | []=>1
 | t :: ts=>(t + 1) * prodT ts
theorem Zfk:∀(ts:List Int) {b:RL},vR ts b→1≤vol b∧vol b≤prodT ts
 | [],[],_=>by unfold vol prodT; omega
 | [],_ :: _,h=>h.elim
 | _ :: _,[],h=>h.elim
 | t :: ts,r :: b,⟨h0,h1,h2,h3⟩=>by
  obtain⟨i1,i2⟩:=Zfk ts h3
  unfold vol prodT
  have hw:1≤wd r∧wd r≤t + 1:=by unfold wd; omega
  have a1:=Int.mul_le_mul hw.1 i1 (by omega) (by omega)
  have a2:=Int.mul_le_mul hw.2 i2 (by omega) (by omega)
  omega
theorem V_le:∀(ts:List Int) {l:List RL},(∀ t∈ts,0≤t)→CF ts l→V l≤prodT ts
 | [],l,_,h=>by rw [V_zero h]; unfold prodT; split <;> omega
 | t :: ts,l,h0,h=>by
  obtain⟨g,hg⟩:=h.cl
  have ht:=h0 t (List.mem_cons_self ..)
  have h0':∀ x∈ts,0≤x:=fun x hx=>h0 x (List.mem_cons_of_mem _ hx)
  rw [hg.v (n:=(t + 1).toNat) (by omega)]
  have key:∀ n:Nat,sm (fun i=>V (g i)) n≤n * prodT ts:=by
   intro n
   induction n with
   | zero=>rw [sm]; simp
   | succ n ih=>
    have:=V_le ts h0' (hg.cf n)
    rw [sm,show ((n + 1:Nat):Int)=(n:Int) + 1 from rfl,Int.add_mul]
    omega
  have:=key (t + 1).toNat
  rw [show (((t + 1).toNat:Nat):Int)=t + 1 by omega] at this
  exact this
theorem prodT5:prodT tops5=20282409603651670423947251286016:=by decide
theorem sf_vR {b:Bx} (h:BOk b):∀ {f:Nat},f≤5→vR (tops5.drop f) (sf f b):=by
 have key:∀(f:Nat) (ts:List Int) (l:RL),vR ts l→vR (ts.drop f) (l.drop f):=by
  intro f
  induction f with
  | zero=>exact fun ts l h=>h
  | succ f ih=>
   intro ts l h
   cases ts with
   | nil=>cases l with
    | nil=>exact h
    | cons _ _=>exact h.elim
   | cons t ts=>cases l with
    | nil=>exact h.elim
    | cons r l=>exact ih ts l h.2.2.2
 intro f _
 exact key f tops5 (toL b) (ok_vR h)
theorem Zjk:∀(f:Nat),f≤5→prodT (tops5.drop f)≤20282409603651670423947251286016:=by
 intro f hf
 rcases (show f=0∨f=1∨f=2∨f=3∨f=4∨f=5 by omega) with rfl | rfl | rfl | rfl | rfl | rfl <;> decide
theorem Zqv (f:Nat):∀ t∈tops5.drop f,0≤t:=fun t ht=>Zh3 t (List.mem_of_mem_drop ht)
theorem getR {b:Bx} (h:BOk b) {f:Nat} (hf:f<5):ROk (topOf (f:Int)) (b.get (f:Int))∧topOf (f:Int)<4294967296:=by
 rcases fiveN hf with rfl | rfl | rfl | rfl | rfl
 ·exact⟨h.h0,by decide⟩
 ·exact⟨h.h1,by decide⟩
 ·exact⟨h.h2,by decide⟩
 ·exact⟨h.h3,by decide⟩
 ·exact⟨h.h4,by decide⟩
theorem Zv3 {b:Bx} (h:BOk b) {f:Nat} (hf:f≤5):∀(j i n:Nat) (c:Int),f + i + j=5→j<n→1≤c→c * vol (sf (f + i) b)<340282366920938463463374607431768211456→Zc3 b (f:Int) n (cN c) (i:Int)=some (cN (c * vol (sf (f + i) b)))
 | 0,i,n + 1,c,e,_,hc,hb=>by
  rw [Zc3,if_neg (by simp; omega)]
  have:sf (f + i) b=[]:=List.eq_nil_of_length_eq_zero (by rw [sf_len (by omega)]; omega)
  rw [this]
  show _=some (cN (c * 1))
  rw [Int.mul_one]
 | j + 1,i,n + 1,c,e,hn,hc,hb=>by
  have hfi:f + i<5:=by omega
  have hv:=(Zfk _ (sf_vR h (f:=f + i + 1) (by omega))).1
  obtain⟨hr,ht⟩:=getR h hfi
  have hw:1≤wd (b.get ((f + i:Nat):Int))∧wd (b.get ((f + i:Nat):Int))≤4294967296:=by
   have:=hr.h0; have:=hr.h1; have:=hr.h2
   unfold wd; omega
  rw [Zg5 hfi b] at hb ⊢
  rw [vol,← Int.mul_assoc] at hb ⊢
  have h1:c * wd (b.get ((f + i:Nat):Int))≤c * wd (b.get ((f + i:Nat):Int)) * vol (sf (f + i + 1) b):=by
   have p:0≤c * wd (b.get ((f + i:Nat):Int)):=Int.mul_nonneg (by omega) (by omega)
   have:=Int.mul_le_mul_of_nonneg_left hv p
   rw [Int.mul_one] at this
   exact this
  have h2:c≤c * wd (b.get ((f + i:Nat):Int)):=by
   have:=Int.mul_le_mul_of_nonneg_left hw.1 (show 0≤c by omega)
   rw [Int.mul_one] at this
   exact this
  obtain⟨k,hk⟩:=Zk1 (a:=c) (n:=wd (b.get ((f + i:Nat):Int))) (by omega) (by omega) (by omega) (by omega) (by omega)
  rw [Zc3,if_pos (by simp; omega),if_pos (by simp; omega),if_pos (by omega),show (f:Int) + (i:Int)=((f + i:Nat):Int) from rfl,Zlw hr ht]
  simp only [Option.bind_some,hk]
  rw [wsucc (by omega)]
  exact Zv3 h hf j (i + 1) n _ (by omega) (by omega) (by omega) hb
theorem Zt8 {b:Bx} (h:BOk b) {f:Nat} (hf:f≤5):Zdv b (f:Int)=some (cN (vol (sf f b))):=by
 unfold Zdv
 have hv:=Zfk _ (sf_vR h hf)
 have hp:=Zjk f hf
 rw [show Zgy 1=some (cN 1) from rfl]
 simp only [Option.bind_some]
 rw [if_pos (by omega)]
 have:=Zv3 h hf (5 - f) 0 fuel 1 (by omega) (by unfold fuel; omega) (by omega) (by rw [Int.one_mul]; simp only [Nat.add_zero]; omega)
 rw [Int.one_mul] at this
 rw [show (0:Int)=((0:Nat):Int) from rfl,this]
 rfl
theorem Zxn {l:List Bx} (hl:l.length≤1000000) (hok:∀ b∈l,BOk b) {f:Nat} (hf:f≤5):∀(j i n:Nat) (c:Int),l.length - i=j→i≤l.length→j<n→0≤c→c + V ((l.drop i).map (sf f))<340282366920938463463374607431768211456→Zcn l (f:Int) n (cN c) (i:Int)=some (cN (c + V ((l.drop i).map (sf f))))
 | 0,i,n + 1,c,e,hi,_,hc,hb=>by
  rw [Zcn,if_neg (by simp; omega),List.drop_eq_nil_of_le (by omega)]
  show _=some (cN (c + 0))
  rw [Int.add_zero]
 | j + 1,i,n + 1,c,e,hi,hn,hc,hb=>by
  have hi':i<l.length:=by omega
  rw [List.drop_eq_getElem_cons hi',List.map_cons,V] at hb ⊢
  have hx:=hok _ (List.getElem_mem hi')
  have hv:=Zfk _ (sf_vR hx hf)
  have hV:0≤V ((l.drop (i + 1)).map (sf f)):=by
   have:∀(m:List Bx),(∀ b∈m,BOk b)→0≤V (m.map (sf f)):=by
    intro m
    induction m with
    | nil=>intro _; show (0:Int)≤0; omega
    | cons x m ih=>
     intro hm
     have:=ih fun y hy=>hm y (List.mem_cons_of_mem _ hy)
     have:=Zfk _ (sf_vR (hm x (List.mem_cons_self ..)) hf)
     rw [List.map_cons,V]; omega
   exact this _ fun b hb=>hok b (List.mem_of_mem_drop hb)
  rw [Zcn,if_pos (by simp; omega),Zal hi']
  simp only [Option.bind_some,Zt8 hx hf]
  rw [Zs7 hc (by omega) (by omega)]
  simp only [Option.bind_some]
  rw [wsucc (by omega),Zxn hl hok hf j (i + 1) n _ (by omega) (by omega) (by omega) (by omega) (by omega),Int.add_assoc]
theorem Zmw {l:List Bx} (hl:l.length≤1000000) (hok:∀ b∈l,BOk b) {f:Nat} (hf:f≤5) (hb:V (l.map (sf f))<340282366920938463463374607431768211456):Zb0 l (f:Int)=some (cN (V (l.map (sf f)))):=by
 unfold Zb0
 have:=Zxn hl hok hf l.length 0 fuel 0 rfl (by omega) (by unfold fuel; omega) (by omega) (by rw [Int.zero_add]; exact hb)
 rw [Int.zero_add] at this
 have e0:Zcn l (f:Int) fuel Zk 0=_:=this
 rw [e0]
 rfl
theorem Zol {l:List Bx} (hl:l.length≤300000) (hin:∀ x∈l,BIn x):Ze5 l=some (st l):=by
 unfold Ze5 st
 rw [pVal hl hin]
 simp only [Option.bind_some]
 by_cases h:vSb l=true
 ·rw [if_pos h,if_pos h]
 ·rw [if_neg h,if_neg h,Zz7 (by omega) hin]; rfl
noncomputable def ofA (l:List Bx):Zf × Int:=if (st l).2 ≠ 0 then (⟨0,0⟩,(st l).2) else (cN (V ((st l).1.map toL)),0)
theorem V_vs {l:List Bx} (h:VS l):0≤V (l.map toL)∧V (l.map toL)≤20282409603651670423947251286016:=by
 refine⟨Zk0 _ Zh3 h.cf,?_⟩
 have:=V_le _ Zh3 h.cf
 rw [prodT5] at this
 exact this
theorem Of_eq {l:List Bx} (hl:l.length≤300000) (hin:∀ x∈l,BIn x):Zhb l=some (ofA l):=by
 unfold Zhb ofA
 rw [Zol hl hin]
 simp only [Option.bind_some]
 by_cases h:(st l).2=0
 ·have hv:=(st_ok l).1.vs
  have hV:=V_vs hv
  have e:(st l).1.map (sf 0)=(st l).1.map toL:=rfl
  rw [if_neg (by simp [h]),if_neg (by simp [h]),show (0:Int)=((0:Nat):Int) from rfl,Zmw (by have:=hv.len; omega) hv.ok (by omega) (by rw [e]; omega)]
  rfl
 ·rw [if_pos (by simpa using h),if_pos (by simpa using h)]
end Go.AM
set_option maxRecDepth 100000
namespace Go.AM
open Go
end Go.AM
set_option maxRecDepth 100000
namespace Go.AM
open Go
structure InL (l:List Bx):Prop where
 len:l.length≤300000
 bin:∀ x∈l,BIn x
theorem InL.one {b:Bx} (h:BIn b):InL [b]:=⟨by simp,fun x hx=>by rw [List.mem_singleton] at hx; rw [hx]; exact h⟩
abbrev ISt:=Bool × List Bx
structure ISok (s:ISt):Prop where
 vs:VS s.2
 e:s.1=true→s.2=[]
end Go.AM
set_option maxRecDepth 100000
namespace Go.AM
open Go
end Go.AM
set_option maxRecDepth 100000
namespace Go.AM
open Go
abbrev QSt:=Bool × List Bx × List Bx
structure QOk (s:QSt):Prop where
 o:VS s.2.1
 r:VS s.2.2
end Go.AM
set_option maxRecDepth 100000
namespace Go.AM
open Go
theorem Zt9 {t:Zg} (ht:TOk t):Ok (Zdp t) fun r=>Z2 r.1∧TOk r.2:=by
 unfold Zdp
 refine Ok.bind (Zmg ht) fun r1 ⟨a1,h1⟩=>Ok.bind (Zmg h1) fun r3 ⟨a3,h3⟩=>?_
 refine Ok.bind (Zds h3 6 (by omega) (by omega)) fun r5 ⟨⟨c0,c1⟩,h5⟩=>?_
 refine Ok.bind (Ok.idx (p:=fun x=>0≤x∧x<256) c0 (by simpa using c1) fun x hx=>?_) fun x7 hx7=>?_
 ·simp only [List.mem_cons,List.not_mem_nil,or_false] at hx
  omega
 refine Ok.bind (Zlq h5 (by omega) (by omega)) fun r9 ⟨a9,h9⟩=>Ok.bind (Zlq h9 (by omega) (by omega)) fun r11 ⟨a11,h11⟩=>Ok.ret ⟨?_,h11⟩
 have g9:=Zr1 r9.1
 have g11:=Zr1 r11.1
 refine⟨?_,?_,?_,?_,?_,trivial⟩ <;> simp only [Zhl,Zig,ok_u8] <;> omega
theorem Zv4 (v:Arr5 Int) (x:Int) {k:Int} (h0:0≤k) (h1:k<5):(v.set k x).get k=x:=by
 rcases five h0 h1 with rfl | rfl | rfl | rfl | rfl <;> rfl
theorem Zv5 (v:Arr5 Int) (x y:Int) {k:Int} (h0:0≤k) (h1:k<5):(v.set k x).set k y=v.set k y:=by
 rcases five h0 h1 with rfl | rfl | rfl | rfl | rfl <;> rfl
theorem z_ok:VOk Zil:=⟨by decide,by decide,by decide,by decide,by decide⟩
theorem Z1a {t:Zg} (ht:TOk t) {l:List (Arr5 Zb)} (hl:∀ b∈l,BIn b) (hn:l.length≤1000000):Ok (Ze8 t l) fun r=>Z2 r.1∧TOk r.2:=by
 unfold Ze8
 refine Ok.lift ?_
 refine Ok.bind (p:=fun v=>TOk v.2∧(v.1=false→0<l.length)) ?_ fun v ⟨hv,hp⟩=>?_
 ·refine Ok.ite (fun _=>Ok.ret ⟨ht,fun h=>by cases h⟩) fun hc=>?_
  exact Ok.bind (Zds ht 4 (by omega) (by omega)) fun r ⟨_,h4⟩=>Ok.ret ⟨h4,fun _=>by
   rcases l with _ | ⟨a,l⟩
   ·exact absurd rfl hc
   ·simp⟩
 refine Ok.ite (fun _=>Ok.bind (Zt9 hv) fun r h=>Ok.ret h) fun hc=>?_
 have hp:=hp (by simpa using hc)
 refine Ok.bind (Zds hv (l.length:Int) (by omega) (by omega)) fun r11 ⟨⟨a0,a1⟩,h11⟩=>?_
 refine Ok.bind (Ok.idx (p:=BIn) a0 a1 hl) fun b hb=>?_
 refine Ok.bind (p:=fun o=>TOk o.1∧VOk o.2) ?_ fun o ⟨g1,g2⟩=>?_
 ·refine Ok.mono (p:=fun(o:Zg × Arr5 Int)=>TOk o.1∧VOk o.2) ?_ fun _ h=>h
  have key:∀(s:Zg × Arr5 Int),TOk s.1∧VOk s.2→Ok ((fun n (s:Zg × Arr5 Int) k=>Zbg b n s.1 s.2 k) fuel s 0) fun(o:Zg × Arr5 Int)=>TOk o.1∧VOk o.2:=fun s hs=>by
   refine Z0q (L:=fun n (s:Zg × Arr5 Int) k=>Zbg b n s.1 s.2 k) (I:=fun s=>TOk s.1∧VOk s.2) (fun n s k h0 h1 ⟨e1,e2⟩ kk=>?_) (fun n s h=>?_) s hs
   ·have hk:0≤k∧k<5:=⟨h0,h1⟩
    show Ok (Zbg b (n + 1) s.1 s.2 k) _
    rw [Zbg,if_pos (decide_eq_true h1)]
    refine Ok.chk hk (Ok.chk hk (Ok.chk hk (Ok.chk hk (Ok.chk hk (Ok.chk hk (Ok.chk hk ?_))))))
    refine Ok.bind (Zds e1 5 (by omega) (by omega)) fun r81 ⟨⟨d0,d1⟩,h81⟩=>?_
    have hg:=hb.get k
    have w1:=Zgs ((b.get k).Lo - 1)
    have w2:=Zgs ((b.get k).Hi + 1)
    have w3:=Zgs ((b.get k).Lo + IntKind.wrap .u32 (Int.tdiv (IntKind.wrap .u32 ((b.get k).Hi - (b.get k).Lo)) 2))
    have q0:=hg.h0
    have q1:=hg.h1
    have q2:=hg.h2
    have q3:=hg.h3
    refine Ok.bind (Ok.idx (p:=fun x=>0≤x∧x<4294967296) d0 (by simpa using d1) fun x hx=>?_) fun x hx=>?_
    ·simp only [List.mem_cons,List.not_mem_nil,or_false] at hx
     omega
    refine Ok.chk hk (Ok.chk hk ?_)
    rw [Top_eq k h0 h1]
    refine Ok.lift ?_
    refine Ok.chk hk ?_
    rw [wnext h0 (by omega),Zv4 _ _ h0 h1,Zv5 _ _ _ h0 h1]
    have ht:=Zvq h0 h1
    refine kk (r81.2,s.2.set k (iMin x (topOf k))) ⟨h81,e2.set h0 h1 ?_ ?_⟩
    ·unfold iMin; split <;> omega
    ·unfold iMin; split <;> omega
   ·show Ok (Zbg b (n + 1) s.1 s.2 5) _
    rw [Zbg,if_neg (by decide)]
    exact Ok.ret h
  exact key (r11.2,Zil) ⟨h11,z_ok⟩
 ·obtain⟨o1,o2⟩:=o
  show Ok ((Ze6 o2).bind _) _
  rw [Zr8 g2]
  exact Ok.lift (Ok.ret ⟨hdr_ok g2,g1⟩)
end Go.AM
set_option maxRecDepth 100000
namespace Go.AM
open Go
end Go.AM
set_option maxRecDepth 100000
namespace Go.AM
open Go
def pt (h:Zj):List Int:=[h.Src,h.Dst,h.Proto,h.SrcPort,h.DstPort]
theorem pt_ok {h:Zj} (hh:Z2 h):vP tops5 (pt h):=by
 have:=hv_ok hh
 exact⟨this.h0.1,this.h0.2,this.h1.1,this.h1.2,this.h2.1,this.h2.2,this.h3.1,this.h3.2,this.h4.1,this.h4.2,trivial⟩
end Go.AM
set_option maxRecDepth 100000
namespace Go.AM
open Go
theorem Zha:∀(ts:List Int) {b:RL} (p:List Int),vR ts b→0≤bel b p
 | [],[],_,_=>by unfold bel; omega
 | [],_ :: _,_,h=>h.elim
 | _ :: _,[],_,h=>h.elim
 | t :: ts,r :: b,[],_=>by unfold bel; omega
 | t :: ts,r :: b,x :: p,⟨h0,h1,h2,h3⟩=>by
  have i:=Zha ts p h3
  have v:=(Zfk ts h3).1
  unfold bel
  have hm:r.Lo<x→0≤vol b * min (x - r.Lo) (wd r):=fun h=>Int.mul_nonneg (by omega) (by unfold wd; omega)
  split
  ·rename_i h
   have:=hm h
   split <;> omega
  ·split <;> omega
theorem Zs8 {f:Nat} (hf:f<5) (h:Zj):(pt h).drop f=(hv h).get (f:Int) :: (pt h).drop (f + 1):=by
 rcases fiveN hf with rfl | rfl | rfl | rfl | rfl <;> rfl
theorem hv_get {h:Zj} (hh:Z2 h) {f:Nat} (hf:f<5):0≤(hv h).get (f:Int)∧(hv h).get (f:Int)≤4294967295:=by
 have v:=hv_ok hh
 have:=v.h0; have:=v.h1; have:=v.h2; have:=v.h3; have:=v.h4
 rcases fiveN hf with rfl | rfl | rfl | rfl | rfl
 ·show 0≤(hv h).x0∧(hv h).x0≤_; omega
 ·show 0≤(hv h).x1∧(hv h).x1≤_; omega
 ·show 0≤(hv h).x2∧(hv h).x2≤_; omega
 ·show 0≤(hv h).x3∧(hv h).x3≤_; omega
 ·show 0≤(hv h).x4∧(hv h).x4≤_; omega
theorem Zxo {b:Bx} (hb:BOk b) {h:Zj} (hh:Z2 h):∀(j f n:Nat) (c:Int),f + j=5→j<n→0≤c→c + bel (sf f b) ((pt h).drop f)<340282366920938463463374607431768211456→Zco b h n (cN c) (f:Int)=some (cN (c + bel (sf f b) ((pt h).drop f)))
 | 0,f,n + 1,c,e,_,hc,hx=>by
  have:f=5:=by omega
  subst this
  rw [Zco,if_neg (by decide)]
  show _=some (cN (c + bel [] []))
  unfold bel
  rw [Int.add_zero]
 | j + 1,f,n + 1,c,e,hn,hc,hx=>by
  have hf:f<5:=by omega
  obtain⟨hr,ht⟩:=getR hb hf
  have hg:=hv_get hh hf
  have hvr:=sf_vR hb (f:=f + 1) (by omega)
  have v:=Zfk _ hvr
  have pd:=Zjk (f + 1) (by omega)
  have nn:=Zha _ ((pt h).drop (f + 1)) hvr
  have r0:=hr.h0
  have r1:=hr.h1
  have r2:=hr.h2
  have hlt:(decide ((f:Int)<5))=true:=decide_eq_true (by omega)
  rw [Zg5 hf b,Zs8 hf h] at hx ⊢
  rw [bel] at hx ⊢
  rw [Zco,if_pos hlt,if_pos (by omega),bindC (Zzw hh (by omega) (by omega))]
  generalize hq:(hv h).get (f:Int)=x at hx hg ⊢
  have hstep:∃ c',(if (decide (x > (Arr5.get b (f:Int)).Lo))=true then
    (Zcr (Arr5.get b (f:Int))).bind fun(r165:Int)=>
    (Zdv b (IntKind.wrap .i64 ((f:Int) + (1:Int)))).bind fun(r167:Zf)=>
    (Zch r167 (iMin (IntKind.wrap .u64 ((IntKind.wrap .u64 x) - (IntKind.wrap .u64 (Arr5.get b (f:Int)).Lo))) r165)).bind fun(r169:(Zf × Bool))=>
    (Zed (cN c) r169.1).bind fun(r171:Zf)=>
    some r171
   else
    some (cN c))=some (cN c')∧c'=c + (if (b.get (f:Int)).Lo<x then vol (sf (f + 1) b) * min (x - (b.get (f:Int)).Lo) (wd (b.get (f:Int))) else 0)∧0≤c':=by
   by_cases hl:(b.get (f:Int)).Lo<x
   ·rw [if_pos hl] at hx ⊢
    have hmin:0≤min (x - (b.get (f:Int)).Lo) (wd (b.get (f:Int)))∧min (x - (b.get (f:Int)).Lo) (wd (b.get (f:Int)))≤4294967296:=by unfold wd; omega
    have hm0:0≤vol (sf (f + 1) b) * min (x - (b.get (f:Int)).Lo) (wd (b.get (f:Int))):=Int.mul_nonneg (by omega) hmin.1
    have hm1:vol (sf (f + 1) b) * min (x - (b.get (f:Int)).Lo) (wd (b.get (f:Int)))<340282366920938463463374607431768211456:=by
     have:(0:Int)≤(if inR x (b.get (f:Int))=true then bel (sf (f + 1) b) ((pt h).drop (f + 1)) else 0):=by split <;> omega
     omega
    obtain⟨k,hk⟩:=Zk1 (a:=vol (sf (f + 1) b)) (n:=min (x - (b.get (f:Int)).Lo) (wd (b.get (f:Int)))) (by omega) hmin.1 (by omega) hm1 (by omega)
    have hi:iMin (IntKind.wrap .u64 ((IntKind.wrap .u64 x) - (IntKind.wrap .u64 (Arr5.get b (f:Int)).Lo))) (wd (b.get (f:Int)))=min (x - (b.get (f:Int)).Lo) (wd (b.get (f:Int))):=by
     rw [wu64 (x:=x) (by omega) (by omega),wu64 (x:=(b.get (f:Int)).Lo) (by omega) (by omega),wu64 (by omega) (by omega)]
     unfold iMin
     split <;> omega
    have hbig:c + vol (sf (f + 1) b) * min (x - (b.get (f:Int)).Lo) (wd (b.get (f:Int)))<340282366920938463463374607431768211456:=by
     have:(0:Int)≤(if inR x (b.get (f:Int))=true then bel (sf (f + 1) b) ((pt h).drop (f + 1)) else 0):=by split <;> omega
     omega
    refine⟨_,?_,rfl,by omega⟩
    rw [if_pos (decide_eq_true hl),Zlw hr ht,wsucc (by omega)]
    simp only [Option.bind_some,Zt8 hb (show f + 1≤5 by omega),hi,hk]
    rw [Zs7 hc hm0 hbig]
    rfl
   ·rw [if_neg hl]
    refine⟨c,?_,by omega,hc⟩
    rw [if_neg (by simpa using hl)]
  obtain⟨c',s1,s2,s3⟩:=hstep
  rw [bindC s1]
  simp only [Option.bind_some]
  by_cases hin:inR x (b.get (f:Int))=true
  ·have hin':=Zd2.1 hin
   rw [if_pos hin] at hx ⊢
   rw [if_neg (by simp; omega)]
   simp only [Option.bind_some]
   rw [wsucc (by omega),Zxo hb hh j (f + 1) n c' (by omega) (by omega) s3 (by omega),s2,Int.add_assoc]
  ·have hin':x<(b.get (f:Int)).Lo∨x > (b.get (f:Int)).Hi:=by rw [Zd2] at hin; omega
   rw [if_neg hin] at hx ⊢
   rw [if_pos (by simp; omega)]
   simp only [Option.bind_some]
   rw [s2,Int.add_zero]
theorem Zz9 {b:Bx} (hb:BOk b) {h:Zj} (hh:Z2 h) (hx:bel (toL b) (pt h)<340282366920938463463374607431768211456):Zf3 b h=some (cN (bel (toL b) (pt h))):=by
 unfold Zf3
 have:=Zxo hb hh 5 0 fuel 0 rfl (by unfold fuel; omega) (by omega) (by rw [Int.zero_add]; exact hx)
 rw [Int.zero_add] at this
 have e0:Zco b h fuel Zk 0=_:=this
 rw [e0]
 rfl
theorem Zqw {l:List Bx} (hok:∀ b∈l,BOk b) (p:List Int):0≤R (l.map toL) p:=by
 induction l with
 | nil=>show (0:Int)≤0; omega
 | cons b l ih=>
  have:=ih fun x hx=>hok x (List.mem_cons_of_mem _ hx)
  have:=Zha _ p (ok_vR (hok b (List.mem_cons_self ..)))
  rw [List.map_cons,R]; omega
theorem rank_L {s:List Bx × Int} (hl:s.1.length≤1000000) (hok:∀ b∈s.1,BOk b) {h:Zj} (hh:Z2 h):∀(j i n:Nat) (c:Int),s.1.length - i=j→i≤s.1.length→j<n→0≤c→c + R ((s.1.drop i).map toL) (pt h)<340282366920938463463374607431768211456→Zcz h s n (cN c) (i:Int)=some (cN (c + R ((s.1.drop i).map toL) (pt h)))
 | 0,i,n + 1,c,e,hi,_,hc,hb=>by
  rw [Zcz,if_neg (by simp; omega),List.drop_eq_nil_of_le (by omega)]
  show _=some (cN (c + 0))
  rw [Int.add_zero]
 | j + 1,i,n + 1,c,e,hi,hn,hc,hb=>by
  have hi':i<s.1.length:=by omega
  rw [List.drop_eq_getElem_cons hi',List.map_cons,R] at hb ⊢
  have hx:=hok _ (List.getElem_mem hi')
  have hv:=Zha _ (pt h) (ok_vR hx)
  have hV:=Zqw (l:=s.1.drop (i + 1)) (fun b hb=>hok b (List.mem_of_mem_drop hb)) (pt h)
  rw [Zcz,if_pos (by simp; omega),Zal hi']
  simp only [Option.bind_some]
  rw [Zz9 hx hh (by omega)]
  simp only [Option.bind_some]
  rw [Zs7 hc hv (by omega)]
  simp only [Option.bind_some]
  rw [wsucc (by omega),rank_L hl hok hh j (i + 1) n _ (by omega) (by omega) (by omega) (by omega) (by omega),Int.add_assoc]
noncomputable def rkA (l:List Bx) (p:List Int):Zf × Int:=if (st l).2 ≠ 0 then (⟨0,0⟩,(st l).2) else (cN (R ((st l).1.map toL) p),0)
theorem R_vs {l:List Bx} (h:VS l) {p:List Int} (hp:vP tops5 p):0≤R (l.map toL) p∧R (l.map toL) p + b1 (mem l p)≤V (l.map toL):=Zoj _ Zh3 h.cf hp
theorem Z1b {l:List Bx} (hl:l.length≤300000) (hin:∀ x∈l,BIn x) {h:Zj} (hh:Z2 h):Zgk l h=some (rkA l (pt h)):=by
 unfold Zgk rkA
 rw [Zol hl hin]
 simp only [Option.bind_some]
 by_cases hz:(st l).2=0
 ·have hv:=(st_ok l).1.vs
  have hV:=V_vs hv
  have hR:=R_vs hv (pt_ok hh)
  have h01:=b1_01 (mem (st l).1 (pt h))
  rw [if_neg (by simp [hz]),if_neg (by simp [hz])]
  have:=rank_L (s:=st l) (by have:=hv.len; omega) hv.ok hh _ 0 fuel 0 rfl (by omega) (by have:=hv.len; unfold fuel; omega) (by omega) (by rw [Int.zero_add]; show R ((st l).1.map toL) (pt h)<_; omega)
  rw [Int.zero_add] at this
  have e0:Zcz h (st l) fuel Zk 0=_:=this
  rw [e0]
  rfl
 ·rw [if_pos (by simpa using hz),if_pos (by simpa using hz)]
end Go.AM
set_option maxRecDepth 100000
namespace Go.AM
open Go
def pv (v:Arr5 Int):List Int:=[v.x0,v.x1,v.x2,v.x3,v.x4]
theorem Zxp {f:Nat} (hf:f<5) (v:Arr5 Int):(pv v).drop f=v.get (f:Int) :: (pv v).drop (f + 1):=by
 rcases fiveN hf with rfl | rfl | rfl | rfl | rfl <;> rfl
theorem Z1c {f:Nat} (hf:f<5) (v:Arr5 Int) (x:Int):(v.set (f:Int) x).get (f:Int)=x:=by
 rcases fiveN hf with rfl | rfl | rfl | rfl | rfl <;> rfl
theorem set_ne {f i:Nat} (hf:f<5) (hi:i<f) (v:Arr5 Int) (x:Int):(v.set (f:Int) x).get (i:Int)=v.get (i:Int):=by
 rcases fiveN hf with rfl | rfl | rfl | rfl | rfl <;> rcases (show i=0∨i=1∨i=2∨i=3 by omega) with rfl | rfl | rfl | rfl <;> first | rfl | omega
theorem Zxq {a b:Int} (hb:0≤b) (hab:b≤a) (ha:a<340282366920938463463374607431768211456):Zd1 (cN a) (cN b)=some (cN (a - b)):=by
 unfold Zd1 cN
 simp only
 rw [if_pos (by omega)]
 by_cases h:a % 18446744073709551616<b % 18446744073709551616 + 0
 ·rw [if_pos h,if_pos (by omega)]
  congr 2 <;> omega
 ·rw [if_neg h,if_pos (by omega)]
  congr 2 <;> omega
theorem Zs9 {c k:Int} (hc:1≤c) (hk:0≤k) (hkk:k<340282366920938463463374607431768211456) {most:Int} (hm:most≤4294967295) (hb:c * most<340282366920938463463374607431768211456) (hcc:c<340282366920938463463374607431768211456):∀(j n:Nat) (lo hi:Int),hi - lo≤j→j<n→0≤lo→lo≤k / c→k / c≤hi→hi≤most→Zb1 (cN k) (cN c) n lo hi=some (k / c)
 | 0,n + 1,lo,hi,h1,_,h0,h2,h3,h4=>by
  rw [Zb1,if_neg (by simp; omega)]
  congr 1
  omega
 | j + 1,n + 1,lo,hi,h1,hn,h0,h2,h3,h4=>by
  by_cases hl:lo<hi
  ·have hmid:IntKind.wrap .u64 (Int.tdiv (IntKind.wrap .u64 ((IntKind.wrap .u64 (lo + hi)) + (1:Int))) (2:Int))=(lo + hi + 1) / 2:=by
    rw [wu64 (x:=lo + hi) (by omega) (by omega),wu64 (x:=lo + hi + 1) (by omega) (by omega),Int.tdiv_eq_ediv_of_nonneg (by omega),wu64 (by omega) (by omega)]
   have hmle:c * ((lo + hi + 1) / 2)≤c * most:=Int.mul_le_mul_of_nonneg_left (by omega) (by omega)
   have hm0:0≤c * ((lo + hi + 1) / 2):=Int.mul_nonneg (by omega) (by omega)
   obtain⟨b,ht⟩:=Zk1 (a:=c) (n:=(lo + hi + 1) / 2) (by omega) (by omega) (by omega) (by omega) hcc
   rw [Zb1,if_pos (decide_eq_true hl)]
   simp only [hmid,ht,Option.bind_some]
   rw [Zlv (cN_ok hm0 (by omega)) (cN_ok hk hkk),cN_num,cN_num]
   simp only [Option.bind_some]
   have key:(lo + hi + 1) / 2≤k / c ↔ c * ((lo + hi + 1) / 2)≤k:=by rw [Int.le_ediv_iff_mul_le (by omega),Int.mul_comm]
   by_cases hle:(lo + hi + 1) / 2≤k / c
   ·have h5:=key.1 hle
    rw [if_pos (by unfold cmp3; split <;> (try split) <;> simp <;> omega)]
    exact Zs9 hc hk hkk hm hb hcc j n _ hi (by omega) (by omega) (by omega) hle h3 h4
   ·have h5:¬ c * ((lo + hi + 1) / 2)≤k:=fun h=>hle (key.2 h)
    rw [if_neg (by unfold cmp3; rw [if_neg (by omega),if_pos (by omega)]; decide),wu64 (by omega) (by omega)]
    exact Zs9 hc hk hkk hm hb hcc j n lo _ (by omega) (by omega) h0 h2 (by omega) (by omega)
  ·rw [Zb1,if_neg (by simp; omega)]
   congr 1
   omega
theorem Z0a {c k:Int} (hc:1≤c) (hk:0≤k) (hkk:k<340282366920938463463374607431768211456) {most:Int} (hm:most≤4294967295) (hb:c * most<340282366920938463463374607431768211456) (hcc:c<340282366920938463463374607431768211456) (hq:k / c≤most):Zf4 (cN k) (cN c) most=some (k / c):=by
 unfold Zf4
 have h0:0≤k / c:=Int.ediv_nonneg hk (by omega)
 rw [Zs9 hc hk hkk hm hb hcc 4294967296 fuel 0 most (by omega) (by unfold fuel; omega) (by omega) h0 hq (by omega)]
 rfl
theorem Z1d {f:Nat} (hf:f<5) {l:List Bx} (hl:l.length≤1000000) (b0:Bx):∀(k j n:Nat),l.length - j=k→k<n→1≤j→j≤l.length→(∀ i (h:i<l.length),i<j→(l[i]).get (f:Int)=b0.get (f:Int)) →
  ∃ N:Nat,Zcd (f:Int) l b0 n (j:Int)=some (N:Int)∧j≤N∧RunTo f l (b0.get (f:Int)) N:=by
 intro k
 induction k with
 | zero=>
  intro j n hk hn h1 hj he
  cases n with
  | zero=>omega
  | succ n=>
  have hd:decide ((j:Int)<(l.length:Int))=false:=by simp; omega
  rw [Zcd,hd]
  exact⟨j,rfl,Nat.le_refl _,hj,he,fun h=>by omega⟩
 | succ k ih=>
  intro j n hk hn h1 hj he
  cases n with
  | zero=>omega
  | succ n=>
  have hjl:j<l.length:=by omega
  have hd:decide ((j:Int)<(l.length:Int))=true:=by simp; omega
  rw [Zcd,hd]
  simp only [Option.bind_some,if_true,Zal hjl]
  rw [if_pos ⟨by omega,by omega⟩]
  simp only [Option.bind_some]
  by_cases hq:(l[j]).get (f:Int)=b0.get (f:Int)
  ·rw [if_pos (Ziw.2 hq),wsucc (by omega)]
   obtain⟨N,e,g1,g2⟩:=ih (j + 1) n (by omega) (by omega) (by omega) (by omega) (fun i h hi=>by
    rcases Nat.lt_or_eq_of_le (Nat.lt_succ_iff.1 hi) with h2 | h2
    ·exact he i h h2
    ·subst h2; exact hq)
   exact⟨N,e,by omega,g2⟩
  ·rw [if_neg (fun h=>hq (Ziw.1 h))]
   exact⟨j,rfl,Nat.le_refl _,hj,he,fun _=>hq⟩
def hdNe (r:Zb) (B:List RL):Prop:=∀ b,B.head? = some b→∃ r' b',b=r' :: b'∧r' ≠ r
theorem Zxr (r:Zb):∀ {A A' B B':List RL},A.map (r :: ·)++B=A'.map (r :: ·)++B'→hdNe r B→hdNe r B'→A=A'∧B=B'
 | [],[],_,_,e,_,_=>⟨rfl,e⟩
 | [],a :: A',B,B',e,h,_=>by
  obtain⟨r',b',e1,e2⟩:=h (r :: a) (by rw [show B=_ from e]; rfl)
  injection e1 with e1 _
  exact absurd e1.symm e2
 | a :: A,[],B,B',e,_,h=>by
  obtain⟨r',b',e1,e2⟩:=h (r :: a) (by rw [show B'=_ from e.symm]; rfl)
  injection e1 with e1 _
  exact absurd e1.symm e2
 | a :: A,a' :: A',B,B',e,h,h'=>by
  simp only [List.map_cons,List.cons_append,List.cons.injEq] at e
  obtain⟨⟨_,e1⟩,e2⟩:=e
  obtain⟨i1,i2⟩:=Zxr r e2 h h'
  exact⟨by rw [e1,i1],i2⟩
theorem Z0b {t:Int} {y:Cell} {c:List Cell} (h:Ord t (y :: c)):hdNe y.1 (flt c):=by
 intro b hb
 cases c with
 | nil=>cases hb
 | cons z c=>
  have hz:=h.ok z (by simp)
  have hy:=h.ok y (by simp)
  have hg:=((List.pairwise_cons.1 h.pw).1 z (List.mem_cons_self ..)).1
  rw [Zdx] at hb
  cases hz2:z.2 with
  | nil=>exact absurd hz2 hz.2.2.2
  | cons d ds=>
   rw [hz2] at hb
   simp only [List.map_cons,List.cons_append,List.head?_cons,Option.some.injEq] at hb
   exact⟨z.1,d,hb.symm,fun e=>by rw [e] at hg; omega⟩
theorem A_zero {t:Int}:∀ {c:List Cell},(∀ x∈c,0≤x.1.Lo∧x.1.Lo≤x.1.Hi∧x.1.Hi≤t)→∀ {n:Nat},(∀ x∈c,(n:Int)≤x.1.Lo)→A c n=0
 | [],_,n,_=>A_nil n
 | x :: c,h,n,hn=>by
  have hx:=h x (List.mem_cons_self ..)
  have:=hn x (List.mem_cons_self ..)
  rw [A_cons c hx.1 hx.2.1,if_neg (by omega),A_zero (fun y hy=>h y (List.mem_cons_of_mem _ hy)) (fun y hy=>hn y (List.mem_cons_of_mem _ hy))]
  rfl
end Go.AM
set_option maxRecDepth 100000
namespace Go.AM
open Go
def d4 (n:Int):Arr4 Int:=⟨n % 4294967296,n / 4294967296 % 4294967296,n / 18446744073709551616 % 4294967296,n / 79228162514264337593543950336⟩
theorem Zix {n:Int} (h0:0≤n) (h1:n<340282366920938463463374607431768211456):Zci (cN n)=some (d4 n):=by
 unfold Zci cN d4
 simp only
 rw [Int.tmod_eq_emod_of_nonneg (by omega),Int.tmod_eq_emod_of_nonneg (by omega),Int.tdiv_eq_ediv_of_nonneg (by omega),Int.tdiv_eq_ediv_of_nonneg (by omega),wu64 (by omega) (by omega),wu64 (by omega) (by omega)]
 congr 2 <;> omega
theorem Zqx {x0 x1 x2 x3:Int} (h0:0≤x0∧x0<4294967296) (h1:0≤x1∧x1<4294967296) (h2:0≤x2∧x2<4294967296) (h3:0≤x3∧x3<4294967296):Zeo ⟨x0,x1,x2,x3⟩=some (cN (x0 + x1 * 4294967296 + x2 * 18446744073709551616 + x3 * 79228162514264337593543950336)):=by
 unfold Zeo cN
 simp only
 rw [wu64 (x:=x3 * 4294967296) (by omega) (by omega),wu64 (x:=x1 * 4294967296) (by omega) (by omega),wu64 (by omega) (by omega),wu64 (by omega) (by omega)]
 congr 2 <;> omega
theorem aw {x y c:Int} (hx:0≤x∧x<4294967296) (hy:0≤y∧y<4294967296) (hc:0≤c∧c<4294967296):Int.tmod (IntKind.wrap .u64 ((IntKind.wrap .u64 (x + y)) + c)) (4294967296:Int)=(x + y + c) % 4294967296∧IntKind.wrap .u64 (Int.tdiv (IntKind.wrap .u64 ((IntKind.wrap .u64 (x + y)) + c)) (4294967296:Int))=(x + y + c) / 4294967296:=by
 rw [wu64 (x:=x + y) (by omega) (by omega),wu64 (x:=x + y + c) (by omega) (by omega),Int.tmod_eq_emod_of_nonneg (by omega),Int.tdiv_eq_ediv_of_nonneg (by omega),wu64 (by omega) (by omega)]
 exact⟨rfl,rfl⟩
theorem fuel5:∃ f,fuel=f + 5:=⟨1180591620717411303419,rfl⟩
theorem add4 {x0 x1 x2 x3 y0 y1 y2 y3:Int} (hx0:0≤x0∧x0<4294967296) (hx1:0≤x1∧x1<4294967296) (hx2:0≤x2∧x2<4294967296) (hx3:0≤x3∧x3<4294967296) (hy0:0≤y0∧y0<4294967296) (hy1:0≤y1∧y1<4294967296) (hy2:0≤y2∧y2<4294967296) (hy3:0≤y3∧y3<4294967296) :
  ∃ z0 z1 z2 z3 c1 c2 c3 c4,Zad ⟨y0,y1,y2,y3⟩ fuel ⟨x0,x1,x2,x3⟩ 0 0=some ⟨z0,z1,z2,z3⟩∧(z0=(x0 + y0 + 0) % 4294967296∧c1=(x0 + y0 + 0) / 4294967296)∧(z1=(x1 + y1 + c1) % 4294967296∧c2=(x1 + y1 + c1) / 4294967296)∧(z2=(x2 + y2 + c2) % 4294967296∧c3=(x2 + y2 + c2) / 4294967296)∧(z3=(x3 + y3 + c3) % 4294967296∧c4=(x3 + y3 + c3) / 4294967296):=by
 obtain⟨f,hf⟩:=fuel5
 obtain⟨a0,b0⟩:=aw hx0 hy0 (c:=0) (by omega)
 obtain⟨a1,b1⟩:=aw hx1 hy1 (c:=(x0 + y0 + 0) / 4294967296) (by omega)
 obtain⟨a2,b2⟩:=aw hx2 hy2 (c:=(x1 + y1 + (x0 + y0 + 0) / 4294967296) / 4294967296) (by omega)
 obtain⟨a3,b3⟩:=aw hx3 hy3 (c:=(x2 + y2 + (x1 + y1 + (x0 + y0 + 0) / 4294967296) / 4294967296) / 4294967296) (by omega)
 refine⟨_,_,_,_,_,_,_,_,?_,⟨rfl,rfl⟩,⟨rfl,rfl⟩,⟨rfl,rfl⟩,⟨rfl,rfl⟩⟩
 have w1:IntKind.wrap .i64 ((0:Int) + 1)=1:=by decide
 have w2:IntKind.wrap .i64 ((1:Int) + 1)=2:=by decide
 have w3:IntKind.wrap .i64 ((2:Int) + 1)=3:=by decide
 have w4:IntKind.wrap .i64 ((3:Int) + 1)=4:=by decide
 rw [hf]
 have s:∀(n:Nat) (v:Arr4 Int) (c i:Int),0≤i∧i<4→Zad ⟨y0,y1,y2,y3⟩ (n + 1) v c i=Zad ⟨y0,y1,y2,y3⟩ n (Arr4.set v i (Int.tmod (IntKind.wrap .u64 ((IntKind.wrap .u64 ((Arr4.get v i) + (Arr4.get ⟨y0,y1,y2,y3⟩ i))) + c)) (4294967296:Int))) (IntKind.wrap .u64 (Int.tdiv (IntKind.wrap .u64 ((IntKind.wrap .u64 ((Arr4.get v i) + (Arr4.get ⟨y0,y1,y2,y3⟩ i))) + c)) (4294967296:Int))) (IntKind.wrap .i64 (i + (1:Int))):=fun n v c i hi=>by
  rw [Zad,if_pos (decide_eq_true hi.2),if_pos hi,if_pos hi,if_pos hi]
 rw [s (f + 4) _ _ 0 (by decide)]
 have e0:∀ q c:Int,Zad ⟨y0,y1,y2,y3⟩ (f + 4) (Arr4.set ⟨x0,x1,x2,x3⟩ 0 q) c (IntKind.wrap .i64 (0 + 1))=Zad ⟨y0,y1,y2,y3⟩ (f + 3 + 1) ⟨q,x1,x2,x3⟩ c 1:=fun q c=>by rw [w1]; rfl
 rw [e0]
 show Zad _ _ ⟨Int.tmod (IntKind.wrap .u64 ((IntKind.wrap .u64 (x0 + y0)) + 0)) (4294967296:Int),x1,x2,x3⟩ (IntKind.wrap .u64 (Int.tdiv (IntKind.wrap .u64 ((IntKind.wrap .u64 (x0 + y0)) + 0)) (4294967296:Int))) 1=_
 rw [a0,b0,s (f + 3) _ _ 1 (by decide)]
 have e1:∀ p q c:Int,Zad ⟨y0,y1,y2,y3⟩ (f + 3) (Arr4.set ⟨p,x1,x2,x3⟩ 1 q) c (IntKind.wrap .i64 (1 + 1))=Zad ⟨y0,y1,y2,y3⟩ (f + 2 + 1) ⟨p,q,x2,x3⟩ c 2:=fun p q c=>by rw [w2]; rfl
 rw [e1]
 show Zad _ _ ⟨_,Int.tmod (IntKind.wrap .u64 ((IntKind.wrap .u64 (x1 + y1)) + (x0 + y0 + 0) / 4294967296)) (4294967296:Int),x2,x3⟩ (IntKind.wrap .u64 (Int.tdiv (IntKind.wrap .u64 ((IntKind.wrap .u64 (x1 + y1)) + (x0 + y0 + 0) / 4294967296)) (4294967296:Int))) 2=_
 rw [a1,b1,s (f + 2) _ _ 2 (by decide)]
 have e2:∀ o p q c:Int,Zad ⟨y0,y1,y2,y3⟩ (f + 2) (Arr4.set ⟨o,p,x2,x3⟩ 2 q) c (IntKind.wrap .i64 (2 + 1))=Zad ⟨y0,y1,y2,y3⟩ (f + 1 + 1) ⟨o,p,q,x3⟩ c 3:=fun o p q c=>by rw [w3]; rfl
 rw [e2]
 show Zad _ _ ⟨_,_,Int.tmod (IntKind.wrap .u64 ((IntKind.wrap .u64 (x2 + y2)) + (x1 + y1 + (x0 + y0 + 0) / 4294967296) / 4294967296)) (4294967296:Int),x3⟩ (IntKind.wrap .u64 (Int.tdiv (IntKind.wrap .u64 ((IntKind.wrap .u64 (x2 + y2)) + (x1 + y1 + (x0 + y0 + 0) / 4294967296) / 4294967296)) (4294967296:Int))) 3=_
 rw [a2,b2,s (f + 1) _ _ 3 (by decide)]
 have e3:∀ m o p q c:Int,Zad ⟨y0,y1,y2,y3⟩ (f + 1) (Arr4.set ⟨m,o,p,x3⟩ 3 q) c (IntKind.wrap .i64 (3 + 1))=Zad ⟨y0,y1,y2,y3⟩ (f + 1) ⟨m,o,p,q⟩ c 4:=fun m o p q c=>by rw [w4]; rfl
 rw [e3]
 show Zad _ _ ⟨_,_,_,Int.tmod (IntKind.wrap .u64 ((IntKind.wrap .u64 (x3 + y3)) + (x2 + y2 + (x1 + y1 + (x0 + y0 + 0) / 4294967296) / 4294967296) / 4294967296)) (4294967296:Int)⟩ (IntKind.wrap .u64 (Int.tdiv (IntKind.wrap .u64 ((IntKind.wrap .u64 (x3 + y3)) + (x2 + y2 + (x1 + y1 + (x0 + y0 + 0) / 4294967296) / 4294967296) / 4294967296)) (4294967296:Int))) 4=_
 rw [a3,b3,Zad,if_neg (by decide)]
theorem d4_sum (n:Int):n=n % 4294967296 + (n / 4294967296 % 4294967296) * 4294967296 + (n / 18446744073709551616 % 4294967296) * 18446744073709551616 + (n / 79228162514264337593543950336) * 79228162514264337593543950336:=by omega
theorem dm (s:Int):s % 4294967296 + 4294967296 * (s / 4294967296)=s∧0≤s % 4294967296∧s % 4294967296<4294967296:=by omega
theorem Zom {a b:Int} (ha:0≤a) (hb:0≤b) (h:a + b<340282366920938463463374607431768211456):Zd7 (cN a) (cN b)=some (cN (a + b)):=by
 unfold Zd7
 rw [bindC (Zix ha (by omega)),bindC (Zix hb (by omega))]
 unfold d4
 have ea:=d4_sum a
 have eb:=d4_sum b
 have x0:0≤a % 4294967296∧a % 4294967296<4294967296:=by omega
 have x1:0≤a / 4294967296 % 4294967296∧a / 4294967296 % 4294967296<4294967296:=by omega
 have x2:0≤a / 18446744073709551616 % 4294967296∧a / 18446744073709551616 % 4294967296<4294967296:=by omega
 have x3:0≤a / 79228162514264337593543950336∧a / 79228162514264337593543950336<4294967296:=by omega
 have y0:0≤b % 4294967296∧b % 4294967296<4294967296:=by omega
 have y1:0≤b / 4294967296 % 4294967296∧b / 4294967296 % 4294967296<4294967296:=by omega
 have y2:0≤b / 18446744073709551616 % 4294967296∧b / 18446744073709551616 % 4294967296<4294967296:=by omega
 have y3:0≤b / 79228162514264337593543950336∧b / 79228162514264337593543950336<4294967296:=by omega
 generalize a % 4294967296=a0 at *
 generalize a / 4294967296 % 4294967296=a1 at *
 generalize a / 18446744073709551616 % 4294967296=a2 at *
 generalize a / 79228162514264337593543950336=a3 at *
 generalize b % 4294967296=b0 at *
 generalize b / 4294967296 % 4294967296=b1 at *
 generalize b / 18446744073709551616 % 4294967296=b2 at *
 generalize b / 79228162514264337593543950336=b3 at *
 obtain⟨z0,z1,z2,z3,c1,c2,c3,c4,e,⟨p0,q0⟩,⟨p1,q1⟩,⟨p2,q2⟩,⟨p3,q3⟩⟩:=add4 x0 x1 x2 x3 y0 y1 y2 y3
 have l0:=dm (a0 + b0 + 0)
 have l1:=dm (a1 + b1 + c1)
 have l2:=dm (a2 + b2 + c2)
 have l3:=dm (a3 + b3 + c3)
 rw [← p0,← q0] at l0
 rw [← p1,← q1] at l1
 rw [← p2,← q2] at l2
 rw [← p3,← q3] at l3
 clear p0 q0 p1 q1 p2 q2 p3 q3
 obtain⟨l0,l0a,l0b⟩:=l0
 obtain⟨l1,l1a,l1b⟩:=l1
 obtain⟨l2,l2a,l2b⟩:=l2
 obtain⟨l3,l3a,l3b⟩:=l3
 rw [bindC e,bindC (Zqx ⟨l0a,l0b⟩ ⟨l1a,l1b⟩ ⟨l2a,l2b⟩ ⟨l3a,l3b⟩)]
 have key:z0 + z1 * 4294967296 + z2 * 18446744073709551616 + z3 * 79228162514264337593543950336=a + b:=by omega
 rw [key]
end Go.AM
set_option maxRecDepth 100000
namespace Go.AM
open Go
theorem tw {x n c:Int} (hx:0≤x∧x<4294967296) (hn:0≤n∧n<4294967296) (hc:0≤c∧c<4294967296):Int.tmod (IntKind.wrap .u64 ((IntKind.wrap .u64 (x * n)) + c)) (4294967296:Int)=(x * n + c) % 4294967296∧IntKind.wrap .u64 (Int.tdiv (IntKind.wrap .u64 ((IntKind.wrap .u64 (x * n)) + c)) (4294967296:Int))=(x * n + c) / 4294967296∧0≤(x * n + c) / 4294967296∧(x * n + c) / 4294967296<4294967296:=by
 have h0:0≤x * n:=Int.mul_nonneg hx.1 hn.1
 have h1:x * n≤4294967295 * 4294967295:=Int.mul_le_mul (by omega) (by omega) hn.1 (by omega)
 generalize x * n=p at *
 rw [wu64 (x:=p) (by omega) (by omega),wu64 (x:=p + c) (by omega) (by omega),Int.tmod_eq_emod_of_nonneg (by omega),Int.tdiv_eq_ediv_of_nonneg (by omega),wu64 (by omega) (by omega)]
 exact⟨rfl,rfl,by omega,by omega⟩
theorem mul4 {x0 x1 x2 x3 n:Int} (hx0:0≤x0∧x0<4294967296) (hx1:0≤x1∧x1<4294967296) (hx2:0≤x2∧x2<4294967296) (hx3:0≤x3∧x3<4294967296) (hn:0≤n∧n<4294967296) :
  ∃ z0 z1 z2 z3 c1 c2 c3 c4,Z0 n fuel ⟨x0,x1,x2,x3⟩ 0 0=some ⟨z0,z1,z2,z3⟩∧(z0=(x0 * n + 0) % 4294967296∧c1=(x0 * n + 0) / 4294967296)∧(z1=(x1 * n + c1) % 4294967296∧c2=(x1 * n + c1) / 4294967296)∧(z2=(x2 * n + c2) % 4294967296∧c3=(x2 * n + c2) / 4294967296)∧(z3=(x3 * n + c3) % 4294967296∧c4=(x3 * n + c3) / 4294967296)∧0≤c4:=by
 obtain⟨f,hf⟩:=fuel5
 obtain⟨a0,b0,d0⟩:=tw hx0 hn (c:=0) (by omega)
 obtain⟨a1,b1,d1⟩:=tw hx1 hn d0
 obtain⟨a2,b2,d2⟩:=tw hx2 hn d1
 obtain⟨a3,b3,d3⟩:=tw hx3 hn d2
 refine⟨_,_,_,_,_,_,_,_,?_,⟨rfl,rfl⟩,⟨rfl,rfl⟩,⟨rfl,rfl⟩,⟨rfl,rfl⟩,d3.1⟩
 have w1:IntKind.wrap .i64 ((0:Int) + 1)=1:=by decide
 have w2:IntKind.wrap .i64 ((1:Int) + 1)=2:=by decide
 have w3:IntKind.wrap .i64 ((2:Int) + 1)=3:=by decide
 have w4:IntKind.wrap .i64 ((3:Int) + 1)=4:=by decide
 rw [hf]
 have s:∀(m:Nat) (v:Arr4 Int) (c i:Int),0≤i∧i<4→Z0 n (m + 1) v c i=Z0 n m (Arr4.set v i (Int.tmod (IntKind.wrap .u64 ((IntKind.wrap .u64 ((Arr4.get v i) * n)) + c)) (4294967296:Int))) (IntKind.wrap .u64 (Int.tdiv (IntKind.wrap .u64 ((IntKind.wrap .u64 ((Arr4.get v i) * n)) + c)) (4294967296:Int))) (IntKind.wrap .i64 (i + (1:Int))):=fun m v c i hi=>by
  rw [Z0,if_pos (decide_eq_true hi.2),if_pos hi,if_pos hi]
 rw [s (f + 4) _ _ 0 (by decide)]
 have e0:∀ q c:Int,Z0 n (f + 4) (Arr4.set ⟨x0,x1,x2,x3⟩ 0 q) c (IntKind.wrap .i64 (0 + 1))=Z0 n (f + 3 + 1) ⟨q,x1,x2,x3⟩ c 1:=fun q c=>by rw [w1]; rfl
 rw [e0]
 show Z0 _ _ ⟨Int.tmod (IntKind.wrap .u64 ((IntKind.wrap .u64 (x0 * n)) + 0)) (4294967296:Int),x1,x2,x3⟩ (IntKind.wrap .u64 (Int.tdiv (IntKind.wrap .u64 ((IntKind.wrap .u64 (x0 * n)) + 0)) (4294967296:Int))) 1=_
 rw [a0,b0,s (f + 3) _ _ 1 (by decide)]
 have e1:∀ p q c:Int,Z0 n (f + 3) (Arr4.set ⟨p,x1,x2,x3⟩ 1 q) c (IntKind.wrap .i64 (1 + 1))=Z0 n (f + 2 + 1) ⟨p,q,x2,x3⟩ c 2:=fun p q c=>by rw [w2]; rfl
 rw [e1]
 show Z0 _ _ ⟨_,Int.tmod (IntKind.wrap .u64 ((IntKind.wrap .u64 (x1 * n)) + (x0 * n + 0) / 4294967296)) (4294967296:Int),x2,x3⟩ (IntKind.wrap .u64 (Int.tdiv (IntKind.wrap .u64 ((IntKind.wrap .u64 (x1 * n)) + (x0 * n + 0) / 4294967296)) (4294967296:Int))) 2=_
 rw [a1,b1,s (f + 2) _ _ 2 (by decide)]
 have e2:∀ o p q c:Int,Z0 n (f + 2) (Arr4.set ⟨o,p,x2,x3⟩ 2 q) c (IntKind.wrap .i64 (2 + 1))=Z0 n (f + 1 + 1) ⟨o,p,q,x3⟩ c 3:=fun o p q c=>by rw [w3]; rfl
 rw [e2]
 show Z0 _ _ ⟨_,_,Int.tmod (IntKind.wrap .u64 ((IntKind.wrap .u64 (x2 * n)) + (x1 * n + (x0 * n + 0) / 4294967296) / 4294967296)) (4294967296:Int),x3⟩ (IntKind.wrap .u64 (Int.tdiv (IntKind.wrap .u64 ((IntKind.wrap .u64 (x2 * n)) + (x1 * n + (x0 * n + 0) / 4294967296) / 4294967296)) (4294967296:Int))) 3=_
 rw [a2,b2,s (f + 1) _ _ 3 (by decide)]
 have e3:∀ m o p q c:Int,Z0 n (f + 1) (Arr4.set ⟨m,o,p,x3⟩ 3 q) c (IntKind.wrap .i64 (3 + 1))=Z0 n (f + 1) ⟨m,o,p,q⟩ c 4:=fun m o p q c=>by rw [w4]; rfl
 rw [e3]
 show Z0 _ _ ⟨_,_,_,Int.tmod (IntKind.wrap .u64 ((IntKind.wrap .u64 (x3 * n)) + (x2 * n + (x1 * n + (x0 * n + 0) / 4294967296) / 4294967296) / 4294967296)) (4294967296:Int)⟩ (IntKind.wrap .u64 (Int.tdiv (IntKind.wrap .u64 ((IntKind.wrap .u64 (x3 * n)) + (x2 * n + (x1 * n + (x0 * n + 0) / 4294967296) / 4294967296) / 4294967296)) (4294967296:Int))) 4=_
 rw [a3,b3,Z0,if_neg (by decide)]
theorem Zua {a n:Int} (ha:0≤a) (ha1:a<340282366920938463463374607431768211456) (hn:0≤n) (hn1:n≤4294967296) (h:a * n<340282366920938463463374607431768211456):Zep (cN a) n=some (cN (a * n)):=by
 unfold Zep
 have ea:=d4_sum a
 have x0:0≤a % 4294967296∧a % 4294967296<4294967296:=by omega
 have x1:0≤a / 4294967296 % 4294967296∧a / 4294967296 % 4294967296<4294967296:=by omega
 have x2:0≤a / 18446744073709551616 % 4294967296∧a / 18446744073709551616 % 4294967296<4294967296:=by omega
 have x3:0≤a / 79228162514264337593543950336∧a / 79228162514264337593543950336<4294967296:=by omega
 rw [bindC (Zix ha ha1),bindC (Zix ha ha1)]
 unfold d4
 generalize a % 4294967296=a0 at *
 generalize a / 4294967296 % 4294967296=a1 at *
 generalize a / 18446744073709551616 % 4294967296=a2 at *
 generalize a / 79228162514264337593543950336=a3 at *
 by_cases hb:n=4294967296
 ·subst hb
  rw [if_pos (by decide)]
  simp only
  rw [bindC (Zqx (x0:=0) (by omega) x0 x1 x2)]
  have key:0 + a0 * 4294967296 + a1 * 18446744073709551616 + a2 * 79228162514264337593543950336=a * 4294967296:=by omega
  rw [key]
 ·rw [if_neg (by simpa using hb)]
  obtain⟨z0,z1,z2,z3,c1,c2,c3,c4,e,⟨p0,q0⟩,⟨p1,q1⟩,⟨p2,q2⟩,⟨p3,q3⟩,c40⟩:=mul4 x0 x1 x2 x3 (n:=n) (by omega)
  have l0:=dm (a0 * n + 0)
  have l1:=dm (a1 * n + c1)
  have l2:=dm (a2 * n + c2)
  have l3:=dm (a3 * n + c3)
  rw [← p0,← q0] at l0
  rw [← p1,← q1] at l1
  rw [← p2,← q2] at l2
  rw [← p3,← q3] at l3
  clear p0 q0 p1 q1 p2 q2 p3 q3
  obtain⟨l0,l0a,l0b⟩:=l0
  obtain⟨l1,l1a,l1b⟩:=l1
  obtain⟨l2,l2a,l2b⟩:=l2
  obtain⟨l3,l3a,l3b⟩:=l3
  rw [bindC e,bindC (Zqx ⟨l0a,l0b⟩ ⟨l1a,l1b⟩ ⟨l2a,l2b⟩ ⟨l3a,l3b⟩)]
  have ean:a * n=a0 * n + a1 * n * 4294967296 + a2 * n * 18446744073709551616 + a3 * n * 79228162514264337593543950336:=by
   rw [ea,Int.add_mul,Int.add_mul,Int.add_mul,Int.mul_right_comm a1,Int.mul_right_comm a2,Int.mul_right_comm a3]
  have key:z0 + z1 * 4294967296 + z2 * 18446744073709551616 + z3 * 79228162514264337593543950336=a * n:=by
   rw [ean] at h ⊢
   generalize a0 * n=m0 at *
   generalize a1 * n=m1 at *
   generalize a2 * n=m2 at *
   generalize a3 * n=m3 at *
   omega
  rw [key]
end Go.AM
set_option maxRecDepth 100000
namespace Go.AM
open Go
theorem Zpq {a b:Int} (ha:0≤a) (ha1:a<340282366920938463463374607431768211456) (hb:0≤b) (hb1:b<340282366920938463463374607431768211456):Zey (cN a) (cN b)=some (cmp3 a b):=by
 unfold Zey
 have ea:=d4_sum a
 have eb:=d4_sum b
 have x0:0≤a % 4294967296∧a % 4294967296<4294967296:=by omega
 have x1:0≤a / 4294967296 % 4294967296∧a / 4294967296 % 4294967296<4294967296:=by omega
 have x2:0≤a / 18446744073709551616 % 4294967296∧a / 18446744073709551616 % 4294967296<4294967296:=by omega
 have y0:0≤b % 4294967296∧b % 4294967296<4294967296:=by omega
 have y1:0≤b / 4294967296 % 4294967296∧b / 4294967296 % 4294967296<4294967296:=by omega
 have y2:0≤b / 18446744073709551616 % 4294967296∧b / 18446744073709551616 % 4294967296<4294967296:=by omega
 rw [bindC (Zix ha ha1),bindC (Zix hb hb1)]
 unfold d4
 generalize a % 4294967296=a0 at *
 generalize a / 4294967296 % 4294967296=a1 at *
 generalize a / 18446744073709551616 % 4294967296=a2 at *
 generalize a / 79228162514264337593543950336=a3 at *
 generalize b % 4294967296=b0 at *
 generalize b / 4294967296 % 4294967296=b1 at *
 generalize b / 18446744073709551616 % 4294967296=b2 at *
 generalize b / 79228162514264337593543950336=b3 at *
 obtain⟨f,hf⟩:=fuel5
 have w3:IntKind.wrap .i64 ((3:Int) - 1)=2:=by decide
 have w2:IntKind.wrap .i64 ((2:Int) - 1)=1:=by decide
 have w1:IntKind.wrap .i64 ((1:Int) - 1)=0:=by decide
 have w0:IntKind.wrap .i64 ((0:Int) - 1)=-1:=by decide
 have s:∀(m:Nat) (i:Int) (x y:Int),0≤i∧i<4→Arr4.get ⟨a0,a1,a2,a3⟩ i=x→Arr4.get ⟨b0,b1,b2,b3⟩ i=y→Zbm ⟨a0,a1,a2,a3⟩ ⟨b0,b1,b2,b3⟩ (m + 1) i=if x<y then some (.inr (-1)) else if x > y then some (.inr 1) else Zbm ⟨a0,a1,a2,a3⟩ ⟨b0,b1,b2,b3⟩ m (IntKind.wrap .i64 (i - 1)):=fun m i x y hi hx hy=>by
  rw [Zbm,if_pos (decide_eq_true hi.1),if_pos hi,if_pos hi,hx,hy]
  by_cases h:x<y
  ·rw [if_pos (decide_eq_true h),if_pos h]
  ·rw [if_neg (by simpa using h),if_neg h,if_pos hi,if_pos hi]
   by_cases h2:x > y
   ·rw [if_pos (decide_eq_true h2),if_pos h2]
   ·rw [if_neg (by simpa using h2),if_neg h2]
 have z:Zbm ⟨a0,a1,a2,a3⟩ ⟨b0,b1,b2,b3⟩ (f + 1) (-1)=some (.inl ()):=by rw [Zbm,if_neg (by decide)]
 have e:Zbm ⟨a0,a1,a2,a3⟩ ⟨b0,b1,b2,b3⟩ fuel 3=some (if a<b then .inr (-1) else if a > b then .inr 1 else .inl ()):=by
  rw [hf,s (f + 4) 3 a3 b3 (by decide) rfl rfl,w3,s (f + 3) 2 a2 b2 (by decide) rfl rfl,w2,s (f + 2) 1 a1 b1 (by decide) rfl rfl,w1,s (f + 1) 0 a0 b0 (by decide) rfl rfl,w0,z]
  by_cases h3:a3=b3
  ·rw [if_neg (by omega),if_neg (by omega)]
   by_cases h2:a2=b2
   ·rw [if_neg (by omega),if_neg (by omega)]
    by_cases h1:a1=b1
    ·rw [if_neg (by omega),if_neg (by omega)]
     by_cases h0:a0=b0
     ·rw [if_neg (by omega),if_neg (by omega),if_neg (by omega),if_neg (by omega)]
     ·by_cases hl:a0<b0
      ·rw [if_pos hl,if_pos (by omega)]
      ·rw [if_neg hl,if_pos (by omega),if_neg (by omega),if_pos (by omega)]
    ·by_cases hl:a1<b1
     ·rw [if_pos hl,if_pos (by omega)]
     ·rw [if_neg hl,if_pos (by omega),if_neg (by omega),if_pos (by omega)]
   ·by_cases hl:a2<b2
    ·rw [if_pos hl,if_pos (by omega)]
    ·rw [if_neg hl,if_pos (by omega),if_neg (by omega),if_pos (by omega)]
  ·by_cases hl:a3<b3
   ·rw [if_pos hl,if_pos (by omega)]
   ·rw [if_neg hl,if_pos (by omega),if_neg (by omega),if_pos (by omega)]
 rw [bindC e]
 unfold cmp3
 by_cases h:a<b
 ·rw [if_pos h,if_pos h]
 ·rw [if_neg h,if_neg h]
  by_cases h2:a > b
  ·rw [if_pos h2,if_pos h2]
  ·rw [if_neg h2,if_neg h2]
theorem Zv6 {t:Int} {r:Zb} (h:ROk t r) (ht:t<4294967296):Zen r=some (wd r):=Zlw h ht
theorem size_L {b:Bx} (h:BOk b):∀(j f n:Nat) (c:Int),f + j=5→j<n→1≤c→c * vol (sf f b)<340282366920938463463374607431768211456→Zdw b n (cN c) (f:Int)=some (cN (c * vol (sf f b)))
 | 0,f,n + 1,c,e,_,hc,hb=>by
  have:f=5:=by omega
  subst this
  rw [Zdw,if_neg (by decide)]
  show _=some (cN (c * 1))
  rw [Int.mul_one]
 | j + 1,f,n + 1,c,e,hn,hc,hb=>by
  have hf:f<5:=by omega
  have hv:=(Zfk _ (sf_vR h (f:=f + 1) (by omega))).1
  obtain⟨hr,ht⟩:=getR h hf
  have hw:1≤wd (b.get (f:Int))∧wd (b.get (f:Int))≤4294967296:=by
   have:=hr.h0; have:=hr.h1; have:=hr.h2
   unfold wd; omega
  rw [Zg5 hf b] at hb ⊢
  rw [vol,← Int.mul_assoc] at hb ⊢
  have h1:c * wd (b.get (f:Int))≤c * wd (b.get (f:Int)) * vol (sf (f + 1) b):=by
   have p:0≤c * wd (b.get (f:Int)):=Int.mul_nonneg (by omega) (by omega)
   have:=Int.mul_le_mul_of_nonneg_left hv p
   rw [Int.mul_one] at this
   exact this
  have h2:c≤c * wd (b.get (f:Int)):=by
   have:=Int.mul_le_mul_of_nonneg_left hw.1 (show 0≤c by omega)
   rw [Int.mul_one] at this
   exact this
  have hlt:(decide ((f:Int)<5))=true:=decide_eq_true (by omega)
  rw [Zdw,if_pos hlt,if_pos (by omega),bindC (Zv6 hr ht),bindC (Zua (by omega) (by omega) (by omega) hw.2 (by omega)),wsucc (by omega)]
  exact size_L h j (f + 1) n _ (by omega) (by omega) (by omega) hb
theorem Zxs {b:Bx} (h:BOk b) {f:Nat} (hf:f≤5):Zee b (f:Int)=some (cN (vol (sf f b))):=by
 unfold Zee
 have hv:=Zfk _ (sf_vR h hf)
 have hp:=Zjk f hf
 rw [show Ze7 1=some (cN 1) from rfl]
 simp only [Option.bind_some]
 rw [bindC (size_L h (5 - f) f fuel 1 (by omega) (by unfold fuel; omega) (by omega) (by rw [Int.one_mul]; omega)),Int.one_mul]
def oi:Zf ⊕ Zf→Zf
 | .inl c=>c
 | .inr c=>c
theorem Zv7 {b:Bx} (hb:BOk b) {h:Zj} (hh:Z2 h):∀(j f n:Nat) (c:Int),f + j=5→j<n→0≤c→c + bel (sf f b) ((pt h).drop f)<340282366920938463463374607431768211456→∃ o,Zcy b (hv h) n (cN c) (f:Int)=some o∧oi o=cN (c + bel (sf f b) ((pt h).drop f))
 | 0,f,n + 1,c,e,_,hc,hx=>by
  have:f=5:=by omega
  subst this
  refine⟨.inl (cN c),?_,?_⟩
  ·rw [Zcy,if_neg (by decide)]
  ·show cN c=cN (c + bel [] [])
   unfold bel
   rw [Int.add_zero]
 | j + 1,f,n + 1,c,e,hn,hc,hx=>by
  have hf:f<5:=by omega
  obtain⟨hr,ht⟩:=getR hb hf
  have hg:=hv_get hh hf
  have hvr:=sf_vR hb (f:=f + 1) (by omega)
  have v:=Zfk _ hvr
  have pd:=Zjk (f + 1) (by omega)
  have nn:=Zha _ ((pt h).drop (f + 1)) hvr
  have r0:=hr.h0
  have r1:=hr.h1
  have r2:=hr.h2
  have hlt:(decide ((f:Int)<5))=true:=decide_eq_true (by omega)
  have h05:0≤(f:Int)∧(f:Int)<5:=by omega
  rw [Zg5 hf b,Zs8 hf h] at hx ⊢
  rw [bel] at hx ⊢
  rw [Zcy,if_pos hlt,if_pos h05,if_pos h05]
  generalize hq:(hv h).get (f:Int)=x at hx hg ⊢
  have hstep:∃ c',(if (decide (x > (Arr5.get b (f:Int)).Lo))=true then
    if 0≤(f:Int)∧(f:Int)<5 then
    if 0≤(f:Int)∧(f:Int)<5 then
    if 0≤(f:Int)∧(f:Int)<5 then
    (Zee b (IntKind.wrap .i64 ((f:Int) + (1:Int)))).bind fun(r249:Zf)=>
    (Zen (Zb.mk ((Arr5.get b (f:Int)).Lo) (iMin ((Arr5.get b (f:Int)).Hi) (IntKind.wrap .u32 (x - (1:Int)))))).bind fun(r251:Int)=>
    (Zep r249 r251).bind fun(r253:Zf)=>
    (Zd7 (cN c) r253).bind fun(r255:Zf)=>
    some r255
    else none
    else none
    else none
   else
    some (cN c))=some (cN c')∧c'=c + (if (b.get (f:Int)).Lo<x then vol (sf (f + 1) b) * min (x - (b.get (f:Int)).Lo) (wd (b.get (f:Int))) else 0)∧0≤c':=by
   by_cases hl:(b.get (f:Int)).Lo<x
   ·rw [if_pos hl] at hx ⊢
    have hmin:0≤min (x - (b.get (f:Int)).Lo) (wd (b.get (f:Int)))∧min (x - (b.get (f:Int)).Lo) (wd (b.get (f:Int)))≤4294967296:=by unfold wd; omega
    have hm0:0≤vol (sf (f + 1) b) * min (x - (b.get (f:Int)).Lo) (wd (b.get (f:Int))):=Int.mul_nonneg (by omega) hmin.1
    have hbig:c + vol (sf (f + 1) b) * min (x - (b.get (f:Int)).Lo) (wd (b.get (f:Int)))<340282366920938463463374607431768211456:=by
     have:(0:Int)≤(if inR x (b.get (f:Int))=true then bel (sf (f + 1) b) ((pt h).drop (f + 1)) else 0):=by split <;> omega
     omega
    have hw:Zen (Zb.mk ((Arr5.get b (f:Int)).Lo) (iMin ((Arr5.get b (f:Int)).Hi) (IntKind.wrap .u32 (x - (1:Int)))))=some (min (x - (b.get (f:Int)).Lo) (wd (b.get (f:Int)))):=by
     rw [wu32 (x:=x - 1) (by omega) (by omega)]
     have hm:iMin (b.get (f:Int)).Hi (x - 1)=min (b.get (f:Int)).Hi (x - 1):=by unfold iMin; split <;> omega
     have hrk:ROk (topOf (f:Int)) ⟨(b.get (f:Int)).Lo,min (b.get (f:Int)).Hi (x - 1)⟩:=⟨r0,by show (b.get (f:Int)).Lo≤min _ _; omega,by show min _ _≤_; omega⟩
     rw [hm,Zv6 hrk ht]
     unfold wd
     congr 1
     show min (b.get (f:Int)).Hi (x - 1) - (b.get (f:Int)).Lo + 1=_
     omega
    refine⟨_,?_,rfl,by omega⟩
    rw [if_pos (decide_eq_true hl),if_pos h05,if_pos h05,if_pos h05,wsucc (by omega),bindC (Zxs hb (show f + 1≤5 by omega)),bindC hw,bindC (Zua (by omega) (by omega) hmin.1 hmin.2 (by omega)),bindC (Zom hc hm0 hbig)]
   ·rw [if_neg hl]
    refine⟨c,?_,by omega,hc⟩
    rw [if_neg (by simpa using hl)]
  obtain⟨c',s1,s2,s3⟩:=hstep
  rw [s1]
  simp only [Option.bind_some,if_pos h05]
  by_cases hin:inR x (b.get (f:Int))=true
  ·have hin':=Zd2.1 hin
   rw [if_pos hin] at hx ⊢
   rw [if_neg (by simp; omega)]
   simp only [Option.bind_some]
   rw [if_neg (by simp; omega)]
   simp only [Option.bind_some]
   rw [wsucc (by omega)]
   obtain⟨o,o1,o2⟩:=Zv7 hb hh j (f + 1) n c' (by omega) (by omega) s3 (by omega)
   exact⟨o,o1,by rw [o2,s2,Int.add_assoc]⟩
  ·have hin':x<(b.get (f:Int)).Lo∨x > (b.get (f:Int)).Hi:=by rw [Zd2] at hin; omega
   rw [if_neg hin] at hx ⊢
   refine⟨.inr (cN c'),?_,by show cN c'=_; rw [s2,Int.add_zero]⟩
   by_cases hlo:x<(b.get (f:Int)).Lo
   ·rw [if_pos (decide_eq_true hlo)]
    simp only [Option.bind_some,if_true]
   ·rw [if_neg (by simpa using hlo)]
    simp only [Option.bind_some]
    rw [if_pos (decide_eq_true (by omega))]
    rfl
theorem Zub {b:Bx} (hb:BOk b) {h:Zj} (hh:Z2 h) (hx:bel (toL b) (pt h)<340282366920938463463374607431768211456):Zfj b h=some (cN (bel (toL b) (pt h))):=by
 unfold Zfj
 obtain⟨o,o1,o2⟩:=Zv7 hb hh 5 0 fuel 0 rfl (by unfold fuel; omega) (by omega) (by rw [Int.zero_add]; exact hx)
 rw [Int.zero_add] at o2
 have o2':oi o=cN (bel (toL b) (pt h)):=o2
 rw [bindC (Zqq hh),show Zk=cN 0 from rfl]
 have e0:Zcy b (hv h) fuel (cN 0) 0=some o:=o1
 rw [bindC e0,← o2']
 cases o with
 | inl c=>rfl
 | inr c=>rfl
end Go.AM
set_option maxRecDepth 100000
namespace Go.AM
open Go
theorem Zmx {l:List Bx} (hl:l.length≤300000) (hin:∀ x∈l,BIn x):Zem l=some (st l):=by
 unfold Zem
 rw [Zy4 hl (by simp) hin (fun _ h=>by cases h),Zz8]
 rfl
theorem Zv8 {s:List Bx} (hl:s.length≤1000000) (hok:∀ b∈s,BOk b) {h:Zj} (hh:Z2 h):∀(j i n:Nat) (c:Int),s.length - i=j→i≤s.length→j<n→0≤c→c + R ((s.drop i).map toL) (pt h)<340282366920938463463374607431768211456→Zcp s h n (cN c) (i:Int)=some (cN (c + R ((s.drop i).map toL) (pt h)))
 | 0,i,n + 1,c,e,hi,_,hc,hb=>by
  rw [Zcp,if_neg (by simp; omega),List.drop_eq_nil_of_le (by omega)]
  show _=some (cN (c + 0))
  rw [Int.add_zero]
 | j + 1,i,n + 1,c,e,hi,hn,hc,hb=>by
  have hi':i<s.length:=by omega
  rw [List.drop_eq_getElem_cons hi',List.map_cons,R] at hb ⊢
  have hx:=hok _ (List.getElem_mem hi')
  have hv:=Zha _ (pt h) (ok_vR hx)
  have hV:=Zqw (l:=s.drop (i + 1)) (fun b hb=>hok b (List.mem_of_mem_drop hb)) (pt h)
  rw [Zcp,if_pos (by simp; omega),bindC (Zal hi'),bindC (Zub hx hh (by omega)),bindC (Zom hc hv (by omega)),wsucc (by omega),Zv8 hl hok hh j (i + 1) n _ (by omega) (by omega) (by omega) (by omega) (by omega),Int.add_assoc]
theorem Zy8 {s:List Bx} (hs:VS s) {h:Zj} (hh:Z2 h):Zea s h=some (cN (R (s.map toL) (pt h))):=by
 have hV:=V_vs hs
 have hR:=R_vs hs (pt_ok hh)
 have h01:=b1_01 (mem s (pt h))
 have:=Zv8 (s:=s) (by have:=hs.len; omega) hs.ok hh _ 0 fuel 0 rfl (by omega) (by have:=hs.len; unfold fuel; omega) (by omega) (by rw [Int.zero_add]; show R (s.map toL) (pt h)<_; omega)
 rw [Int.zero_add] at this
 unfold Zea
 have e0:Zcp s h fuel (cN 0) 0=some (cN (R (s.map toL) (pt h))):=this
 rw [show Zk=cN 0 from rfl,bindC e0]
theorem Zxt {s:List Bx × Int} (hz:s.2=0) (hl:s.1.length≤1000000) (hok:∀ b∈s.1,BOk b) {h:Zj} (hh:Z2 h):∀(j i n:Nat) (c:Int),s.1.length - i=j→i≤s.1.length→j<n→0≤c→c + R ((s.1.drop i).map toL) (pt h)<340282366920938463463374607431768211456→Zb4 h s n (cN c) (i:Int)=some (cN (c + R ((s.1.drop i).map toL) (pt h)))
 | 0,i,n + 1,c,e,hi,_,hc,hb=>by
  rw [Zb4,hz,bindC rfl,if_neg (by simp; omega),List.drop_eq_nil_of_le (by omega)]
  show _=some (cN (c + 0))
  rw [Int.add_zero]
 | j + 1,i,n + 1,c,e,hi,hn,hc,hb=>by
  have hi':i<s.1.length:=by omega
  rw [List.drop_eq_getElem_cons hi',List.map_cons,R] at hb ⊢
  have hx:=hok _ (List.getElem_mem hi')
  have hv:=Zha _ (pt h) (ok_vR hx)
  have hV:=Zqw (l:=s.1.drop (i + 1)) (fun b hb=>hok b (List.mem_of_mem_drop hb)) (pt h)
  rw [Zb4,hz,bindC rfl,if_pos (by simp; omega),bindC (Zal hi'),bindC (Zub hx hh (by omega)),bindC (Zom hc hv (by omega)),wsucc (by omega),Zxt hz hl hok hh j (i + 1) n _ (by omega) (by omega) (by omega) (by omega) (by omega),Int.add_assoc]
theorem Zv9 {l:List Bx} (hl:l.length≤300000) (hin:∀ x∈l,BIn x) {h:Zj} (hh:Z2 h):Zfx l h=some (rkA l (pt h)):=by
 unfold Zfx rkA
 rw [bindC (Zmx hl hin),show Zk=cN 0 from rfl]
 by_cases hz:(st l).2=0
 ·have hv:=(st_ok l).1.vs
  have hV:=V_vs hv
  have hR:=R_vs hv (pt_ok hh)
  have h01:=b1_01 (mem (st l).1 (pt h))
  have:=Zxt (s:=st l) hz (by have:=hv.len; omega) hv.ok hh _ 0 fuel 0 rfl (by omega) (by have:=hv.len; unfold fuel; omega) (by omega) (by rw [Int.zero_add]; show R ((st l).1.map toL) (pt h)<_; omega)
  rw [Int.zero_add] at this
  have e0:Zb4 h (st l) fuel (cN 0) 0=some (cN (R ((st l).1.map toL) (pt h))):=this
  rw [bindC e0,if_neg (by simp [hz]),hz]
 ·have hb:((st l).2 == 0)=false:=by simpa using hz
  obtain⟨f,hf⟩:=fuel5
  have e0:Zb4 h (st l) fuel (cN 0) 0=some (cN 0):=by
   rw [hf,Zb4,bindC rfl,hb,Bool.false_and,if_neg (by decide)]
  rw [bindC e0,if_pos (by simpa using hz)]
  rfl
theorem rof_L {s:List Bx × Int} (hz:s.2=0) (hl:s.1.length≤1000000) (hok:∀ b∈s.1,BOk b):∀(j i n:Nat) (c:Int),s.1.length - i=j→i≤s.1.length→j<n→0≤c→c + V ((s.1.drop i).map toL)<340282366920938463463374607431768211456→Zcu s n (cN c) (i:Int)=some (cN (c + V ((s.1.drop i).map toL)))
 | 0,i,n + 1,c,e,hi,_,hc,hb=>by
  rw [Zcu,hz,bindC rfl,if_neg (by simp; omega),List.drop_eq_nil_of_le (by omega)]
  show _=some (cN (c + 0))
  rw [Int.add_zero]
 | j + 1,i,n + 1,c,e,hi,hn,hc,hb=>by
  have hi':i<s.1.length:=by omega
  rw [List.drop_eq_getElem_cons hi',List.map_cons,V] at hb ⊢
  have hx:=hok _ (List.getElem_mem hi')
  have hv:=Zfk _ (ok_vR hx)
  have key:∀(m:List Bx),(∀ b∈m,BOk b)→0≤V (m.map toL):=by
   intro m
   induction m with
   | nil=>intro _; show (0:Int)≤0; omega
   | cons x m ih=>
    intro hm
    have:=ih fun y hy=>hm y (List.mem_cons_of_mem _ hy)
    have:=Zfk _ (ok_vR (hm x (List.mem_cons_self ..)))
    rw [List.map_cons,V]; omega
  have hV:=key (s.1.drop (i + 1)) fun b hb=>hok b (List.mem_of_mem_drop hb)
  have es:Zee s.1[i] 0=some (cN (vol (toL s.1[i]))):=Zxs (f:=0) hx (by omega)
  rw [Zcu,hz,bindC rfl,if_pos (by simp; omega),bindC (Zal hi'),bindC es,bindC (Zom hc (by omega) (by omega)),wsucc (by omega),rof_L hz hl hok j (i + 1) n _ (by omega) (by omega) (by omega) (by omega) (by omega),Int.add_assoc]
theorem Zta {l:List Bx} (hl:l.length≤300000) (hin:∀ x∈l,BIn x):Zf2 l=some (ofA l):=by
 unfold Zf2 ofA
 rw [bindC (Zmx hl hin),show Zk=cN 0 from rfl]
 by_cases hz:(st l).2=0
 ·have hv:=(st_ok l).1.vs
  have hV:=V_vs hv
  have:=rof_L (s:=st l) hz (by have:=hv.len; omega) hv.ok _ 0 fuel 0 rfl (by omega) (by have:=hv.len; unfold fuel; omega) (by omega) (by rw [Int.zero_add]; show V ((st l).1.map toL)<_; omega)
  rw [Int.zero_add] at this
  have e0:Zcu (st l) fuel (cN 0) 0=some (cN (V ((st l).1.map toL))):=this
  rw [bindC e0,if_neg (by simp [hz]),hz]
 ·have hb:((st l).2 == 0)=false:=by simpa using hz
  obtain⟨f,hf⟩:=fuel5
  have e0:Zcu (st l) fuel (cN 0) 0=some (cN 0):=by
   rw [hf,Zcu,bindC rfl,hb,Bool.false_and,if_neg (by decide)]
  rw [bindC e0,if_pos (by simpa using hz)]
  rfl
end Go.AM
set_option maxRecDepth 100000
namespace Go.AM
open Go
theorem Ztb:∀(A:List Int) {m x:Int} {P Q:List Int},m<x→ltL (A++m :: P) (A++x :: Q)
 | [],_,_,_,_,h=>Or.inl h
 | _ :: A,_,_,_,_,h=>Or.inr ⟨rfl,Ztb A h⟩
theorem Zwa:∀(A:List Int) {P Q:List Int},P=Q∨ltL P Q→A++P=A++Q∨ltL (A++P) (A++Q)
 | [],_,_,h=>h
 | _ :: A,_,_,h=>by
  rcases Zwa A h with h | h
  ·exact Or.inl (by rw [List.cons_append,h]; rfl)
  ·exact Or.inr (Or.inr ⟨rfl,h⟩)
theorem Zwb:∀(Q:List Int),(∀ x∈Q,0≤x)→List.replicate Q.length 0=Q∨ltL (List.replicate Q.length 0) Q
 | [],_=>Or.inl rfl
 | x :: Q,h=>by
  have h0:=h x (List.mem_cons_self ..)
  rw [List.length_cons,List.replicate_succ]
  by_cases e:0=x
  ·subst e
   rcases Zwb Q fun y hy=>h y (List.mem_cons_of_mem _ hy) with h1 | h1
   ·exact Or.inl (by rw [h1])
   ·exact Or.inr (Or.inr ⟨rfl,h1⟩)
  ·exact Or.inr (Or.inl (by omega))
end Go.AM
set_option maxRecDepth 100000
namespace Go.AM
open Go
theorem bis_L {k:Int} (k0:0≤k) (k1:k<340282366920938463463374607431768211456) {s:List Bx × Int} {h:Zj} {f X top:Int} (ht:top≤4294967295)
  (H:∀ m,0≤m→m≤top→∃ g r,Zef h f m=some g∧Zea s.1 g=some (cN r)∧0≤r∧r<340282366920938463463374607431768211456∧(r≤k ↔ m≤X)) :
  ∀(j n:Nat) (lo hi:Int),hi - lo≤j→j<n→0≤lo→lo≤X→X≤hi→hi≤top→Zb2 (cN k) s h f n lo hi=some X
 | 0,n + 1,lo,hi,h1,_,h0,h2,h3,h4=>by
  rw [Zb2,if_neg (by simp; omega)]
  congr 1
  omega
 | j + 1,n + 1,lo,hi,h1,hn,h0,h2,h3,h4=>by
  by_cases hl:lo<hi
  ·have hmid:IntKind.wrap .u64 (Int.tdiv (IntKind.wrap .u64 ((IntKind.wrap .u64 (lo + hi)) + (1:Int))) (2:Int))=(lo + hi + 1) / 2:=by
    rw [wu64 (x:=lo + hi) (by omega) (by omega),wu64 (x:=lo + hi + 1) (by omega) (by omega),Int.tdiv_eq_ediv_of_nonneg (by omega),wu64 (by omega) (by omega)]
   obtain⟨g,r,e1,e2,r0,r1,hr⟩:=H ((lo + hi + 1) / 2) (by omega) (by omega)
   rw [Zb2,if_pos (decide_eq_true hl)]
   simp only [hmid]
   rw [wu32 (x:=(lo + hi + 1) / 2) (by omega) (by omega),bindC e1,bindC e2,bindC (Zpq r0 r1 k0 k1)]
   by_cases hle:(lo + hi + 1) / 2≤X
   ·have h5:=hr.2 hle
    rw [if_pos (by unfold cmp3; split <;> (try split) <;> simp <;> omega)]
    exact bis_L k0 k1 ht H j n _ hi (by omega) (by omega) (by omega) hle h3 h4
   ·have h5:¬ r≤k:=fun h=>hle (hr.1 h)
    rw [if_neg (by unfold cmp3; rw [if_neg (by omega),if_pos (by omega)]; decide),wu64 (by omega) (by omega)]
    exact bis_L k0 k1 ht H j n lo _ (by omega) (by omega) h0 h2 (by omega) (by omega)
  ·rw [Zb2,if_neg (by simp; omega)]
   congr 1
   omega
end Go.AM
set_option maxRecDepth 100000
namespace Go.AM
open Go
theorem Zwc {h:Zj} (hh:Z2 h) {f:Nat} (hf:f<5) {x:Int} (h0:0≤x):Zef h (f:Int) x=some (if x≤topOf (f:Int) then hdr ((hv h).set (f:Int) x) else h):=by
 unfold Zef
 rw [Top_eq (f:Int) (by omega) (by omega),Zqq hh]
 have e1:decide ((f:Int)<0)=false:=decide_eq_false (by omega)
 have e2:decide ((f:Int) ≥ 5)=false:=decide_eq_false (by omega)
 simp only [Option.bind_some,e1,e2,Bool.or_self,Bool.false_eq_true,if_false]
 by_cases hx:x≤topOf (f:Int)
 ·rw [if_neg (by simp; omega),if_pos hx,if_pos (by omega)]
  have hv':=(hv_ok hh).set (k:=(f:Int)) (by omega) (by omega) h0 hx
  rw [Zr8 hv']
  rfl
 ·rw [if_pos (by simp; omega),if_neg hx]
end Go.AM
set_option maxRecDepth 100000
namespace Go.AM
open Go
theorem V_posN:∀ {ts:List Int} {l:List RL},(∀ t∈ts,0≤t)→CF ts l→l ≠ []→1≤V l:=fun {ts l} _ h hn=>by
 have hr:=CF_vR ts h
 have key:∀(m:List RL),(∀ b∈m,vR ts b)→0≤V m:=by
  intro m
  induction m with
  | nil=>intro _; show (0:Int)≤0; omega
  | cons b m ih=>
   intro hm
   have:=ih fun x hx=>hm x (List.mem_cons_of_mem _ hx)
   have:=Zfk _ (hm b (List.mem_cons_self ..))
   rw [V]; omega
 cases l with
 | nil=>exact absurd rfl hn
 | cons b m=>
  have:=key m fun x hx=>hr x (List.mem_cons_of_mem _ hx)
  have:=Zfk _ (hr b (List.mem_cons_self ..))
  rw [V]; omega
theorem sel_L2 {f:Nat} (hf:f<5) {v:Arr5 Int} (hv:VOk v):∀(m n:Nat) (s:List Bx) (c:List Cell) (k:Int),s.length≤m→m<n→s.length≤4096→(∀ b∈s,BOk b)→s.map (sf f)=flt c→Ord (topOf (f:Int)) c→(∀ x∈c,CF (tops5.drop (f + 1)) x.2)→0≤k→k<V (flt c) →
  ∃(x:Nat) (k2:Int) (s2:List Bx),Zdr (hdr v) (f:Int) n (cN k) s=some (cN k2,hdr (v.set (f:Int) (x:Int)),s2)∧(x:Int)≤topOf (f:Int)∧(∀ b∈s2,BOk b)∧s2.length≤4096∧s2.map (sf (f + 1))=lk c x∧A c x + k2=k∧0≤k2∧k2<V (lk c x)∧∃ z∈c,z.1.Lo≤(x:Int)∧(x:Int)≤z.1.Hi:=by
 intro m
 induction m with
 | zero=>
  intro n s c k h1 _ _ _ h5 _ _ h8 h9
  have:s=[]:=List.eq_nil_of_length_eq_zero (by omega)
  subst this
  rw [← h5] at h9
  have:V (([]:List Bx).map (sf f))=0:=rfl
  omega
 | succ m ih=>
  intro n s c k h1 h2 h3 hok h5 ho hcf h8 h9
  cases n with
  | zero=>omega
  | succ n=>
  cases c with
  | nil=>
   have:V (flt [])=0:=rfl
   omega
  | cons y c=>
  have hy:=ho.ok y (List.mem_cons_self ..)
  have hbnd:∀ x∈(y :: c),0≤x.1.Lo∧x.1.Lo≤x.1.Hi∧x.1.Hi≤topOf (f:Int):=fun x hx=>⟨(ho.ok x hx).1,(ho.ok x hx).2.1,(ho.ok x hx).2.2.1⟩
  have htop:=(getR (b:=full) Zw8 hf).2
  have hCF:CF (tops5.drop f) (flt (y :: c)):=by rw [Zh2 hf]; exact⟨_,rfl,ho,hcf⟩
  have hCF':CF (tops5.drop f) (flt c):=by rw [Zh2 hf]; exact⟨_,rfl,ho.tail,fun x hx=>hcf x (List.mem_cons_of_mem _ hx)⟩
  have hVle:=V_le _ (Zqv f) hCF
  have hp:=Zjk f (by omega)
  have hV0:=Zk0 _ (Zqv f) hCF'
  have hU:=V_posN (Zqv (f + 1)) (hcf y (List.mem_cons_self ..)) hy.2.2.2
  have hVs:V (flt (y :: c))=wd y.1 * V y.2 + V (flt c):=by rw [Zdx,V_app,V_map]
  have hW:1≤wd y.1∧wd y.1≤4294967296:=by unfold wd; omega
  have hUW:V y.2≤wd y.1 * V y.2:=by
   have:=Int.mul_le_mul_of_nonneg_right hW.1 (show 0≤V y.2 by omega)
   rw [Int.one_mul] at this
   exact this
  have hcomm:V y.2 * wd y.1=wd y.1 * V y.2:=Int.mul_comm _ _
  have hsne:s ≠ []:=fun e=>by
   rw [e,Zdx] at h5
   cases hy2:y.2 with
   | nil=>exact hy.2.2.2 hy2
   | cons d ds=>rw [hy2] at h5; cases h5
  have hs0:0<s.length:=List.length_pos_iff.2 hsne
  have i0:idx s (0:Int)=some s[0]:=Zal hs0
  obtain⟨N,e,hN1,hrun⟩:=Z1d hf (l:=s) (by omega) s[0] (s.length - 1) 1 fuel rfl (by unfold fuel; omega) (by omega) (by omega) (fun i h hi=>by
   have:i=0:=by omega
   subst this; rfl)
  have e':Zcd (f:Int) s s[0] fuel 1=some (N:Int):=e
  have hNl:=hrun.h1
  obtain⟨hsp,hne,hhd⟩:=Zn9 hf hN1 hrun hsne
  have hr:s[0].get (f:Int)=y.1:=by
   rw [hsp,Zdx] at h5
   cases hy2:y.2 with
   | nil=>exact absurd hy2 hy.2.2.2
   | cons d ds=>
    cases ht:(s.take N).map (sf (f + 1)) with
    | nil=>exact absurd ht hne
    | cons d' ds'=>
     rw [hy2,ht] at h5
     simp only [List.map_cons,List.cons_append,List.cons.injEq] at h5
     exact h5.1.1
  rw [hr] at hsp hhd
  obtain⟨hA,hB⟩:=Zxr y.1 (hsp.symm.trans (h5.trans (Zdx y c))) hhd (Z0b ho)
  have hoks:∀ b∈s.take N,BOk b:=fun b hb=>hok b (List.mem_of_mem_take hb)
  have htot:Zb0 (List.drop (Int.toNat (0:Int)) (List.take (Int.toNat (N:Int)) s)) (IntKind.wrap .i64 ((f:Int) + (1:Int)))=some (cN (V y.2)):=by
   rw [wsucc (by omega)]
   show Zb0 (s.take N) ((f + 1:Nat):Int)=_
   rw [Zmw (by rw [List.length_take]; omega) hoks (by omega) (by rw [hA]; omega),hA]
  obtain⟨hgr,hgt⟩:=getR (hok s[0] (List.getElem_mem hs0)) hf
  have hlen:=Zlw hgr hgt
  rw [hr] at hlen
  obtain⟨bb,ht⟩:=Zk1 (a:=V y.2) (n:=wd y.1) (by omega) (by omega) (by omega) (by omega) (by omega)
  have hUW0:0≤V y.2 * wd y.1:=by omega
  rw [Zdr,if_pos (decide_eq_true (by omega)),bindC i0,if_pos (by omega),bindC e',if_pos (by omega),bindC htot,hr,bindC hlen,bindC ht,bindC (Zlv (cN_ok h8 (by omega)) (cN_ok hUW0 (by omega))),cN_num,cN_num]
  by_cases hk:V y.2 * wd y.1≤k
  ·rw [if_pos (by unfold cmp3; split <;> (try split) <;> simp <;> omega),bindC (Zxq hUW0 hk (by omega)),if_pos (by omega)]
   have hd:List.drop (Int.toNat (N:Int)) (List.take (Int.toNat (s.length:Int)) s)=s.drop N:=by
    show List.drop N (List.take s.length s)=_
    rw [List.take_length]
   rw [hd]
   obtain⟨x,k2,s2,g1,g2,g3,g4,g5,g6,g7,g8,z,hz,g9,g10⟩:=ih n (s.drop N) c (k - V y.2 * wd y.1) (by rw [List.length_drop]; omega) (by omega) (by rw [List.length_drop]; omega) (fun b hb=>hok b (List.mem_of_mem_drop hb)) hB ho.tail (fun x hx=>hcf x (List.mem_cons_of_mem _ hx)) (by omega) (by omega)
   have hgp:=((List.pairwise_cons.1 ho.pw).1 z hz).1
   have hlk:lk (y :: c) x=lk c x:=by rw [Zgf,if_neg (by rw [Zd2]; omega)]; rfl
   refine⟨x,k2,s2,g1,g2,g3,g4,by rw [hlk]; exact g5,?_,g7,by rw [hlk]; exact g8,z,List.mem_cons_of_mem _ hz,g9,g10⟩
   rw [A_cons c hy.1 hy.2.1,if_pos (by omega),Int.min_eq_right (by unfold wd; omega)]
   omega
  ·have hq0:0≤k / V y.2:=Int.ediv_nonneg h8 (by omega)
   have hq1:k / V y.2<wd y.1:=Int.ediv_lt_of_lt_mul (by omega) (by omega)
   have hdm:=Int.emod_add_mul_ediv k (V y.2)
   have hm2:0≤V y.2 * (k / V y.2):=Int.mul_nonneg (by omega) hq0
   have hm0:=Int.emod_nonneg k (show V y.2 ≠ 0 by omega)
   have hm1:=Int.emod_lt_of_pos k (show 0<V y.2 by omega)
   have hmost:IntKind.wrap .u64 (wd y.1 - 1)=wd y.1 - 1:=wu64 (by omega) (by omega)
   have hle:V y.2 * (wd y.1 - 1)≤V y.2 * wd y.1:=Int.mul_le_mul_of_nonneg_left (by omega) (by omega)
   obtain⟨bb2,ht2⟩:=Zk1 (a:=V y.2) (n:=k / V y.2) (by omega) hq0 (by omega) (by omega) (by omega)
   have hx0:0≤y.1.Lo + k / V y.2∧y.1.Lo + k / V y.2≤y.1.Hi:=by unfold wd at hq1; omega
   have hwith:Zh7 (hdr v) (f:Int) (IntKind.wrap .u32 (y.1.Lo + (IntKind.wrap .u32 (k / V y.2))))=some (hdr (v.set (f:Int) (y.1.Lo + k / V y.2))):=by
    rw [wu32 (x:=k / V y.2) (by omega) (by omega),wu32 (by omega) (by omega)]
    exact Z0v hv (by omega) (by omega) hx0.1 (by omega)
   rw [if_neg (by unfold cmp3; rw [if_pos (by omega)]; decide),bindC hlen,hmost,bindC (Z0a hU h8 (by omega) (by omega) (by omega) (by omega) (by omega)),bindC ht2,bindC (Zxq (by omega) (by omega) (by omega)),if_pos (by omega),bindC hwith]
   obtain⟨x,hx⟩:∃ x:Nat,(x:Int)=y.1.Lo + k / V y.2:=⟨(y.1.Lo + k / V y.2).toNat,by omega⟩
   have hlk:lk (y :: c) x=y.2:=lk_mem ho (List.mem_cons_self ..) (by omega) (by omega)
   refine⟨x,k - V y.2 * (k / V y.2),s.take N,by rw [hx]; rfl,by omega,hoks,by rw [List.length_take]; omega,by rw [hlk]; exact hA,?_,by omega,by rw [hlk]; omega,y,List.mem_cons_self ..,by omega,by omega⟩
   have hz:A c x=0:=A_zero (fun z hz=>hbnd z (List.mem_cons_of_mem _ hz)) fun z hz=>by
    have:=((List.pairwise_cons.1 ho.pw).1 z hz).1
    omega
   rw [A_cons c hy.1 hy.2.1,hz,hx]
   by_cases h0:y.1.Lo<y.1.Lo + k / V y.2
   ·rw [if_pos h0,Int.min_eq_left (by omega),show y.1.Lo + k / V y.2 - y.1.Lo=k / V y.2 by omega]
    omega
   ·rw [if_neg h0,show k / V y.2=0 by omega,Int.mul_zero]
    omega
theorem sel_L1:∀(j f n:Nat) (s:List Bx) (v:Arr5 Int) (k:Int),f + j=5→j<n→s.length≤4096→(∀ b∈s,BOk b)→CF (tops5.drop f) (s.map (sf f))→VOk v→0≤k→k<V (s.map (sf f)) →
  ∃(k':Zf) (v':Arr5 Int),Zce n (cN k) (hdr v) s (f:Int)=some (k',hdr v')∧VOk v'∧(∀ i:Nat,i<f→v'.get (i:Int)=v.get (i:Int))∧mS (s.map (sf f)) ((pv v').drop f)=true∧R (s.map (sf f)) ((pv v').drop f)=k
 | 0,f,n + 1,s,v,k,e,_,h3,hok,hC,hv,h0,h1=>by
  have:f=5:=by omega
  subst this
  have hC':CF [] (s.map (sf 5)):=hC
  rw [V_zero hC'] at h1
  refine⟨cN k,v,?_,hv,fun _ _=>rfl,?_,?_⟩
  ·rw [Zce,if_neg (by decide)]
  ·show mS (s.map (sf 5)) []=true
   cases h:mS (s.map (sf 5)) [] with
   | true=>rfl
   | false=>rw [h,if_neg (by decide)] at h1; omega
  ·show R (s.map (sf 5)) []=k
   rw [Zy7 hC']
   split at h1 <;> omega
 | j + 1,f,n + 1,s,v,k,e,hn,h3,hok,hC,hv,h0,h1=>by
  have hf:f<5:=by omega
  rw [Zh2 hf] at hC
  obtain⟨c,hc,ho,hcf⟩:=hC
  rw [hc] at h1
  obtain⟨x,k2,s2,g1,g2,g3,g4,g5,g6,g7,g8,_⟩:=sel_L2 hf hv s.length fuel s c k (Nat.le_refl _) (by unfold fuel; omega) h3 hok hc ho hcf h0 h1
  have hbnd:∀ x∈c,0≤x.1.Lo∧x.1.Lo≤x.1.Hi∧x.1.Hi≤topOf (f:Int):=fun x hx=>⟨(ho.ok x hx).1,(ho.ok x hx).2.1,(ho.ok x hx).2.2.1⟩
  obtain⟨k',v',q1,q2,q3,q4,q5⟩:=sel_L1 j (f + 1) n s2 (v.set (f:Int) (x:Int)) k2 (by omega) (by omega) g4 g3 (by rw [g5]; exact CF_lk ho hcf _) (hv.set (by omega) (by omega) (by omega) g2) g7 (by rw [g5]; exact g8)
  have hlt:(decide ((f:Int)<5))=true:=decide_eq_true (by omega)
  have hx:v'.get (f:Int)=(x:Int):=by rw [q3 f (by omega),Z1c hf]
  refine⟨k',v',?_,q2,fun i hi=>by rw [q3 i (by omega),set_ne hf hi],?_,?_⟩
  ·rw [Zce,if_pos hlt,bindC g1]
   simp only
   rw [wsucc (by omega)]
   exact q1
  ·rw [hc,Zxp hf,hx,Zhc,Ziv,← g5]
   exact q4
  ·rw [hc,Zxp hf,hx,R_flt hbnd,← g5,q5]
   exact g6
theorem Zy9 {l:List Bx} (hl:l.length≤300000) (hin:∀ x∈l,BIn x) (hz:(st l).2=0) {k:Int} (h0:0≤k) (h1:k<V ((st l).1.map toL)) :
  ∃ h,Zc4 l (cN k)=some (h,true)∧Z2 h∧mem (st l).1 (pt h)=true∧R ((st l).1.map toL) (pt h)=k:=by
 have so:=(st_ok l).1.vs
 have hV:=V_vs so
 have e:(st l).1.map (sf 0)=(st l).1.map toL:=rfl
 have tot:Zb0 (st l).1 0=some (cN (V ((st l).1.map toL))):=Zmw (f:=0) (by have:=so.len; omega) so.ok (by omega) (by rw [e]; omega)
 have z0:VOk ⟨0,0,0,0,0⟩:=⟨by decide,by decide,by decide,by decide,by decide⟩
 obtain⟨k',v',q1,q2,_,q4,q5⟩:=sel_L1 5 0 fuel (st l).1 ⟨0,0,0,0,0⟩ k rfl (by unfold fuel; omega) so.len so.ok so.cf z0 h0 h1
 have q1':Zce fuel (cN k) Zo (st l).1 0=some (k',hdr v'):=q1
 refine⟨hdr v',?_,hdr_ok q2,q4,q5⟩
 unfold Zc4
 rw [bindC (Zol hl hin)]
 simp only [Option.bind_some]
 rw [hz,if_neg (by decide),bindC tot,bindC (Zlv (cN_ok h0 (by omega)) (cN_ok hV.1 (by omega))),cN_num,cN_num]
 simp only [Option.bind_some]
 rw [if_neg (by unfold cmp3; rw [if_pos h1]; decide),bindC q1']
theorem Zuc {l:List Bx} (hl:l.length≤300000) (hin:∀ x∈l,BIn x) {k:Int} (h0:0≤k) (hk:k<340282366920938463463374607431768211456) (h1:(st l).2 ≠ 0∨V ((st l).1.map toL)≤k):Zc4 l (cN k)=some (Zo,false):=by
 unfold Zc4
 rw [bindC (Zol hl hin)]
 simp only [Option.bind_some]
 by_cases hz:(st l).2=0
 ·have so:=(st_ok l).1.vs
  have hV:=V_vs so
  have e:(st l).1.map (sf 0)=(st l).1.map toL:=rfl
  have tot:Zb0 (st l).1 0=some (cN (V ((st l).1.map toL))):=Zmw (f:=0) (by have:=so.len; omega) so.ok (by omega) (by rw [e]; omega)
  have h1':V ((st l).1.map toL)≤k:=h1.resolve_left fun h=>h hz
  rw [hz,if_neg (by decide),bindC tot,bindC (Zlv (cN_ok h0 hk) (cN_ok hV.1 (by omega))),cN_num,cN_num]
  simp only [Option.bind_some]
  rw [if_pos (by unfold cmp3; split <;> (try split) <;> simp <;> omega)]
 ·rw [if_pos (by simpa using hz),bindC rfl,if_pos rfl]
end Go.AM
set_option maxRecDepth 100000
namespace Go.AM
open Go
theorem Z1e {t:Zg} (ht:TOk t) {n:Int} (h0:0≤n) (h1:n<90):Ok (Zfq t n) fun r=>VS r.1∧TOk r.2:=by
 unfold Zfq
 refine Ok.bind (Zvk false ht h0 h1) fun r1 ⟨g1,g2,g3⟩=>?_
 rw [Zv0 (by omega) (fun x hx=>(g1 x hx).1)]
 refine Ok.lift (Ok.ret ⟨?_,g3⟩)
 exact(mkF_ok (r1.1.filter vB) [] VS.nil).1.vs
end Go.AM

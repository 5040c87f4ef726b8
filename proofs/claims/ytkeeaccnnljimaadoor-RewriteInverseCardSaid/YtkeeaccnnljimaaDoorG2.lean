/- Plain laws: loops over the fields of a box and over lists. No condition. -/
import Derived.Test.YtkeeaccnnljimaaDoorG1
set_option maxRecDepth 100000
namespace Go.AM
open Go
/-! ### Loops over the five fields -/
theorem five_find {ρ : Type} {L : Nat → Int → Option (Unit ⊕ ρ)} {bad : Int → Bool} {v : ρ}
    (step : ∀ n (k : Int), 0 ≤ k → k < 5 → L (n + 1) k = if bad k = true then some (.inr v) else L n (k + 1)) (stop : ∀ n, L (n + 1) 5 = some (.inl ())) :
    L fuel 0 = some (if (bad 0 || bad 1 || bad 2 || bad 3 || bad 4) = true then .inr v else .inl ()) := by
  rw [fuel6]
  rw [step _ 0 (by omega) (by omega), step _ (0 + 1) (by omega) (by omega), step _ (0 + 1 + 1) (by omega) (by omega), step _ (0 + 1 + 1 + 1) (by omega) (by omega), step _ (0 + 1 + 1 + 1 + 1) (by omega) (by omega)]
  rw [show (0 : Int) + 1 + 1 + 1 + 1 + 1 = 5 from rfl, stop, show (0 : Int) + 1 = 1 from rfl, show (1 : Int) + 1 = 2 from rfl, show (2 : Int) + 1 = 3 from rfl, show (3 : Int) + 1 = 4 from rfl]
  cases bad 0 <;> cases bad 1 <;> cases bad 2 <;> cases bad 3 <;> cases bad 4 <;> rfl
theorem five_fold {σ ρ : Type} {L : Nat → σ → Int → Option ρ} {f : σ → Int → σ} {fin : σ → ρ}
    (step : ∀ n s (k : Int), 0 ≤ k → k < 5 → L (n + 1) s k = L n (f s k) (k + 1)) (stop : ∀ n s, L (n + 1) s 5 = some (fin s)) (s : σ) :
    L fuel s 0 = some (fin (f (f (f (f (f s 0) 1) 2) 3) 4)) := by
  rw [fuel6]
  rw [step _ _ 0 (by omega) (by omega), step _ _ (0 + 1) (by omega) (by omega), step _ _ (0 + 1 + 1) (by omega) (by omega), step _ _ (0 + 1 + 1 + 1) (by omega) (by omega), step _ _ (0 + 1 + 1 + 1 + 1) (by omega) (by omega)]
  rw [show (0 : Int) + 1 + 1 + 1 + 1 + 1 = 5 from rfl, stop, show (0 : Int) + 1 = 1 from rfl, show (1 : Int) + 1 = 2 from rfl, show (2 : Int) + 1 = 3 from rfl, show (3 : Int) + 1 = 4 from rfl]
/-- Five steps that come to something. -/
theorem five_ok {σ ρ : Type} {L : Nat → σ → Int → Option ρ} {I : σ → Prop} {q : ρ → Prop}
    (step : ∀ n s (k : Int), 0 ≤ k → k < 5 → I s → (∀ s', I s' → Ok (L n s' (k + 1)) q) → Ok (L (n + 1) s k) q) (stop : ∀ n s, I s → Ok (L (n + 1) s 5) q) (s : σ) (hs : I s) : Ok (L fuel s 0) q := by
  rw [fuel6]
  refine step _ _ 0 (by omega) (by omega) hs fun s hs => ?_
  refine step _ _ 1 (by omega) (by omega) hs fun s hs => ?_
  refine step _ _ 2 (by omega) (by omega) hs fun s hs => ?_
  refine step _ _ 3 (by omega) (by omega) hs fun s hs => ?_
  refine step _ _ 4 (by omega) (by omega) hs fun s hs => ?_
  exact stop _ _ hs
/-! ### Loops over lists -/
theorem wsucc {i : Nat} (h : i < 1000000000001) : IntKind.wrap .i64 ((i : Int) + (1 : Int)) = ((i + 1 : Nat) : Int) := by
  rw [wi64 (by omega) (by omega)]; omega
/-- The first element that gives something. -/
def findI {α ρ : Type} (g : Nat → α → Option ρ) : Nat → List α → Option ρ
  | _, [] => none
  | i, x :: xs => match g i x with
    | some r => some r
    | none => findI g (i + 1) xs
def orS {ρ : Type} : Option ρ → Unit ⊕ ρ
  | some r => .inr r
  | none => .inl ()
theorem list_find {α ρ : Type} {L : Nat → Int → Option (Unit ⊕ ρ)} (l : List α) (g : Nat → α → Option ρ) (hl : l.length ≤ 1000000000000)
    (step : ∀ n (i : Nat) (h : i < l.length), L (n + 1) (i : Int) = match g i l[i] with
      | some r => some (.inr r)
      | none => L n ((i + 1 : Nat) : Int))
    (stop : ∀ n, L (n + 1) (l.length : Int) = some (.inl ())) : L fuel 0 = some (orS (findI g 0 l)) := by
  have key : ∀ (m n i : Nat), i + m = l.length → L (n + m + 1) (i : Int) = some (orS (findI g i (l.drop i))) := by
    intro m
    induction m with
    | zero =>
      intro n i h
      have hi : i = l.length := by omega
      subst hi
      rw [List.drop_length]
      exact stop _
    | succ m ih =>
      intro n i h
      have hi : i < l.length := by omega
      rw [show n + (m + 1) + 1 = (n + m + 1) + 1 by omega, step _ i hi, List.drop_eq_getElem_cons hi]
      simp only [findI]
      cases hg : g i l[i] with
      | some r => rfl
      | none => exact ih n (i + 1) (by omega)
  obtain ⟨f, hf⟩ := fuel_cut l.length hl
  rw [hf]
  exact key l.length f 0 (by omega)
/-- A loop that builds something. -/
def foldI {α σ : Type} (f : σ → Nat → α → σ) : σ → Nat → List α → σ
  | s, _, [] => s
  | s, i, x :: xs => foldI f (f s i x) (i + 1) xs
theorem list_fold {α σ ρ : Type} {L : Nat → σ → Int → Option ρ} (l : List α) (f : σ → Nat → α → σ) (fin : σ → ρ) (I : Nat → σ → Prop) (hl : l.length ≤ 1000000000000)
    (step : ∀ n s (i : Nat) (h : i < l.length), I i s → L (n + 1) s (i : Int) = L n (f s i l[i]) ((i + 1 : Nat) : Int) ∧ I (i + 1) (f s i l[i]))
    (stop : ∀ n s, I l.length s → L (n + 1) s (l.length : Int) = some (fin s)) (s : σ) (hs : I 0 s) : L fuel s 0 = some (fin (foldI f s 0 l)) ∧ I l.length (foldI f s 0 l) := by
  have key : ∀ (m n i : Nat) (s : σ), I i s → i + m = l.length → L (n + m + 1) s (i : Int) = some (fin (foldI f s i (l.drop i))) ∧ I l.length (foldI f s i (l.drop i)) := by
    intro m
    induction m with
    | zero =>
      intro n i s hs h
      have hi : i = l.length := by omega
      subst hi
      rw [List.drop_length]
      exact ⟨stop _ _ hs, hs⟩
    | succ m ih =>
      intro n i s hs h
      have hi : i < l.length := by omega
      obtain ⟨h1, h2⟩ := step (n + m + 1) s i hi hs
      rw [show n + (m + 1) + 1 = (n + m + 1) + 1 by omega, h1, List.drop_eq_getElem_cons hi]
      simp only [foldI]
      exact ih n (i + 1) _ h2 (by omega)
  obtain ⟨g, hg⟩ := fuel_cut l.length hl
  rw [hg]
  exact key l.length g 0 s hs (by omega)
/-- A loop that comes to something. -/
theorem list_ok {α σ ρ : Type} {L : Nat → σ → Int → Option ρ} (l : List α) (I : Nat → σ → Prop) {q : ρ → Prop} (hl : l.length ≤ 1000000000000)
    (step : ∀ n s (i : Nat), i < l.length → I i s → (∀ s', I (i + 1) s' → Ok (L n s' ((i + 1 : Nat) : Int)) q) → Ok (L (n + 1) s (i : Int)) q)
    (stop : ∀ n s, I l.length s → Ok (L (n + 1) s (l.length : Int)) q) (s : σ) (hs : I 0 s) : Ok (L fuel s 0) q := by
  have key : ∀ (m n i : Nat) (s : σ), I i s → i + m = l.length → Ok (L (n + m + 1) s (i : Int)) q := by
    intro m
    induction m with
    | zero =>
      intro n i s hs h
      have hi : i = l.length := by omega
      subst hi
      exact stop _ _ hs
    | succ m ih =>
      intro n i s hs h
      rw [show n + (m + 1) + 1 = (n + m + 1) + 1 by omega]
      exact step _ s i (by omega) hs fun s' hs' => ih n (i + 1) s' hs' (by omega)
  obtain ⟨g, hg⟩ := fuel_cut l.length hl
  rw [hg]
  exact key l.length g 0 s hs (by omega)
/-- Rounds that are counted up to a number. -/
theorem count_ok {σ ρ : Type} {L : Nat → σ → Int → Option ρ} (m : Nat) (I : Nat → σ → Prop) {q : ρ → Prop} (hm : m ≤ 1000000000000)
    (step : ∀ n s (i : Nat), i < m → I i s → (∀ s', I (i + 1) s' → Ok (L n s' ((i + 1 : Nat) : Int)) q) → Ok (L (n + 1) s (i : Int)) q)
    (stop : ∀ n s, I m s → Ok (L (n + 1) s (m : Int)) q) (s : σ) (hs : I 0 s) : Ok (L fuel s 0) q :=
  list_ok (List.replicate m ()) I (by simpa using hm) (fun n s i h => step n s i (by simpa using h)) (fun n s h => by simp only [List.length_replicate] at h ⊢; exact stop n s h) s hs
theorem foldI_app {α β : Type} (g : Nat → α → List β) : ∀ (l : List α) (acc : List β) (i : Nat), foldI (fun s i x => s ++ g i x) acc i l = acc ++ foldI (fun s i x => s ++ g i x) [] i l
  | [], acc, i => by simp [foldI]
  | x :: xs, acc, i => by
    simp only [foldI]
    rw [foldI_app g xs (acc ++ g i x), foldI_app g xs ([] ++ g i x)]
    simp
theorem foldI_map {α β : Type} (g : α → β) : ∀ (l : List α) (acc : List β) (i : Nat), foldI (fun s _ x => s ++ [g x]) acc i l = acc ++ l.map g
  | [], acc, i => by simp [foldI]
  | x :: xs, acc, i => by simp only [foldI]; rw [foldI_map g xs]; simp
theorem foldI_flat {α β : Type} (g : α → List β) : ∀ (l : List α) (acc : List β) (i : Nat), foldI (fun s _ x => s ++ g x) acc i l = acc ++ l.flatMap g
  | [], acc, i => by simp [foldI]
  | x :: xs, acc, i => by simp only [foldI]; rw [foldI_flat g xs]; simp
end Go.AM

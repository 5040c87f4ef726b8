/- States that say less, as a program writes them. No condition. -/
import Derived.Test.YtdpogkakaeeccaaDoorB1
namespace Go.AM
section
variable {P : Program} {G : Glob} {n0 nt : Nat} {st : St} {H : List Blk} {Q : Exit → St → List Blk → Prop} {e : Exit}

theorem LeQ.start (h : LeQ G n0 nt Q e st H) : LeQ G n0 nt Q e st H := h
theorem LeQ.of (h : Q e st H) : LeQ G n0 nt Q e st H := ⟨st, H, Le.refl, h⟩
theorem LeQ.le {st' : St} {H' : List Blk} (h : Le G n0 nt st H st' H') (k : LeQ G n0 nt Q e st' H') : LeQ G n0 nt Q e st H :=
  let ⟨s2, H2, h2, hq⟩ := k
  ⟨s2, H2, h.trans h2, hq⟩
theorem LeQ.keep {st' : St} {H' : List Blk} (ks : List Nat) (m : Nat) (hm : Nat.ble n0 m = true) (hs : st.pick ks = st') (hi : st'.all (fun x => x.2.ids (fun j => decide (j < m))) = true) (hH : H.take m = H') (h : Q e st' H') : LeQ G n0 nt Q e st H :=
  ⟨st', H', Le.keepB ks m hm hs hi hH, h⟩
theorem LeQ.wk {st' : St} {p q : PV} (k : Nat) (hk : st.get k = some p) (hw : Wk H false p q) (hs : st.put k q = st') (h : LeQ G n0 nt Q e st' H) : LeQ G n0 nt Q e st H := by
  subst hs; exact LeQ.le (Le.wk hk hw) h
theorem LeQ.share {H' : List Blk} {s t : Nat} {xs : List (List PV)} {sh : Bool} (i : Nat) (hb : H[i]? = some (.buf s t xs sh)) (hH : H.set i (.buf s t xs true) = H') (h : LeQ G n0 nt Q e st H') : LeQ G n0 nt Q e st H := by
  subst hH; exact LeQ.le (Le.share hb) h
theorem roundQ.start {id n : Nat} {I : Nat → St → List Blk → Prop} (h : LeQ G n0 nt (fun _ st H => ∃ m, m < n ∧ I m st H) .normal st H) : roundQ G n0 nt id I n Q .normal st H := h
end
end Go.AM

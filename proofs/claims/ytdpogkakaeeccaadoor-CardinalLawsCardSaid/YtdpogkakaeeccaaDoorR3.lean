/- From a promise over no blocks to a call, and to what lay there before it. No condition. -/
import Derived.Test.YtdpogkakaeeccaaDoorR2
namespace Go.AM
open Go Go.RowKit
variable {P : Program} {G : Glob} {W : World}

theorem ACall.call {f : FuncId} {args : List PV} {R : PV → List Blk → Prop} (h : ACall P G f args [] R) (hG : ∀ g cs, (g, cs) ∈ G → g < W.heap.size ∧ VRow (old W) [] W g 0 cs) {cargs : Array Value} (hv : VRs (old W) [] W args cargs.toList) :
    Calls P f cargs W fun e W' => ∃ v p K S β, e = .returned v ∧ R p K ∧ VR S β W' p v ∧ Below W.heap.size W W' := by
  refine (h (old W) [] W cargs ⟨⟨fun b hi hb => ⟨hb, fun e he => by cases he⟩, hG, (fun e he => by cases he), (fun b hi hi' h0 _ => h0)⟩, rfl, fun i e k he _ => by simp at he, fun i j e f _ he _ => by simp at he⟩ hv).mono fun e W' ⟨v, p, K, γ, h1, h2, h3, h4⟩ => ?_
  exact ⟨v, p, K, _, _, h1, h2, h4, ⟨h3.frm.os, h3.frm.tape, h3.frm.output, h3.frm.size, fun k hk => h3.frm.block k hk fun e he => by cases he⟩⟩
/-- A law: it answers this bool, and nothing that was there has turned. -/
theorem ACall.law {f : FuncId} {args : List PV} {b : Bool} (h : ACall P G f args [] (fun p K => p = .sc (.bool b) ∧ K = [])) (hG : ∀ g cs, (g, cs) ∈ G → g < W.heap.size ∧ VRow (old W) [] W g 0 cs) {cargs : Array Value} (hv : VRs (old W) [] W args cargs.toList) :
    Calls P f cargs W fun e W' => e = .returned (.bool b) ∧ Below W.heap.size W W' := by
  refine (h.call hG hv).mono fun e W' ⟨v, p, K, S, β, h1, ⟨h2, _⟩, h3, h4⟩ => ?_
  subst h2
  simp only [VR] at h3
  subst h3
  exact ⟨h1, h4⟩
end Go.AM

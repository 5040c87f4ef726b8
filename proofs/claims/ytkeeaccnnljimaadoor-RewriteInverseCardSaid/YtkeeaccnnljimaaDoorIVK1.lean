/- Printed by gen.py: the functions of the program compute them. -/
import Derived.Test.YtkeeaccnnljimaaDoorProg
import Derived.Test.YtkeeaccnnljimaaDoorF
import Derived.Test.YtkeeaccnnljimaaDoorS
set_option maxRecDepth 100000
namespace Go.AM
open Go Go.Proofs
def R_nsglaw6_sane (r : Bool) : PV → List Blk → Prop := fun p K => p = (vb r) ∧ K = []
theorem K_nsglaw6_sane (r : Bool) (hF : F_nsglaw6_sane = some r) : ACall Tryd.prog glob 10 [] [] (R_nsglaw6_sane r) := by
  have hr := someb hF
  subst hr
  exact (T29_ok _ (List.mem_cons.2 (.inl rfl))).1
def R_nsggen_New (r : nsggen_Tape) : PV → List Blk → Prop := fun p K => p = (.ptr 0 0) ∧ K = [.cells (row_nsggen_Tape r)]
abbrev Q_nsggen_New (r : nsggen_Tape) : Exit → St → List Blk → Prop := FnQ Tryd.prog Tryd.f6.results 0 (R_nsggen_New r)
theorem K_nsggen_New (a0 : (List Int)) (r : nsggen_Tape) (hF : F_nsggen_New a0 = some r) : ACall Tryd.prog glob 6 [(slc 1 row_i64 a0)] [] (R_nsggen_New r) := by
  refine ACall.body Tryd.func6 rfl (by kernel_rfl) ?_
  unfold F_nsggen_New at hF
  refine AWP.seq ?_
  refine AWP.rg0 [] [(0, (slc 1 row_i64 a0))] ?_
  refine AWP.seq ?_
  refine AWP.rg [] [(2, (.ptr 0 0))] [.cells (row_nsggen_Tape (nsggen_Tape.mk a0 (0:Int)))] ?_
  refine AWP.ret ?_
  have hr := someb hF
  subst hr
  exact (FnQ.f0 1 (.inr rfl))
def R_nsggen_Mod (r : Int) : PV → List Blk → Prop := fun p K => p = (i64 r) ∧ K = []
abbrev Q_nsggen_Mod (r : Int) : Exit → St → List Blk → Prop := FnQ Tryd.prog Tryd.f45.results 0 (R_nsggen_Mod r)
theorem K_nsggen_Mod (a0 : Int) (a1 : Int) (r : Int) (hF : F_nsggen_Mod a0 a1 = some r) : ACall Tryd.prog glob 45 [(i64 a0), (i64 a1)] [] (R_nsggen_Mod r) := by
  refine ACall.body Tryd.func45 rfl (by kernel_rfl) ?_
  unfold F_nsggen_Mod at hF
  refine AWP.seq ?_
  refine AWP.rg0 [] [(0, (i64 a0)), (1, (i64 a1))] ?_
  refine AWP.seq ?_
  obtain ⟨h1, hF⟩ := chkb hF
  refine AWP.rg0 [(4, .rem h1)] [(4, (i64 (IntKind.wrap .i64 (Int.tmod (IntKind.wrap .u64 a0) (IntKind.wrap .u64 a1)))))] ?_
  refine AWP.ret ?_
  have hr := someb hF
  subst hr
  exact (FnQ.f0 0 (.inr rfl))
def R_nsggen_Tape_Next (r : (Int × nsggen_Tape)) : PV → List Blk → Prop := fun p K => p = (i64 r.1) ∧ K = [.cells (row_nsggen_Tape r.2)]
abbrev Q_nsggen_Tape_Next (r : (Int × nsggen_Tape)) : Exit → St → List Blk → Prop := FnQ Tryd.prog Tryd.f18.results 1 (R_nsggen_Tape_Next r)
theorem K_nsggen_Tape_Next (a0 : nsggen_Tape) (a1 : Int) (r : (Int × nsggen_Tape)) (hF : F_nsggen_Tape_Next a0 a1 = some r) : ACall Tryd.prog glob 18 [(.ptr 0 0), (i64 a1)] [.cells (row_nsggen_Tape a0)] (R_nsggen_Tape_Next r) := by
  refine ACall.body Tryd.func18 rfl (by kernel_rfl) ?_
  unfold F_nsggen_Tape_Next at hF
  refine AWP.seq ?_
  refine AWP.rg0 [] [(0, (.ptr 0 0)), (1, (i64 a1))] ?_
  refine AWP.seq ?_
  refine AWP.seq ?_
  obtain ⟨b1, h2, hF⟩ := bindb hF
  replace h2 := someb h2
  refine AWP.to [(0, (.ptr 0 0)), (1, (i64 a1)), (18, (vb (b1 || (decide (a0.f_i ≥ (List.length a0.f_l : Int))))))] [.cells (row_nsggen_Tape a0)] ?_ ?_
  · cases b1 with
    | false =>
      exact AWP.drT [(2, .bool h2), (11, .len row_i64 a0.f_l)] 14 [] [] []
    | true =>
      exact AWP.drT [(2, .bool h2)] 14 [] [] []
  refine AWP.cif hF (fun h7 hF => ?_) (fun h7 hF => ?_)
  · refine AWP.seq ?_
    refine AWP.rg0 [] [(4, (i64 (0:Int)))] ?_
    refine AWP.ret ?_
    have hr := someb hF
    subst hr
    exact (FnQ.f0 1 (.inr rfl))
  · refine AWP.skip ?_
    refine AWP.seq ?_
    refine AWP.rg [] [(0, (.ptr 0 0)), (1, (i64 a1))] [.cells (row_nsggen_Tape ({ a0 with f_i := (IntKind.wrap .i64 (a0.f_i + (1:Int))) } : nsggen_Tape))] ?_
    refine AWP.seq ?_
    obtain ⟨x3, h4, hF⟩ := bindb hF
    obtain ⟨r5, h6, hF⟩ := bindb hF
    refine AWP.dr [(9, .idx row_i64 h4), (12, .call Tryd.func45 [] (K_nsggen_Mod x3 a1 r5 h6))] 13 [] [] [] [(4, (i64 r5))] [.cells (row_nsggen_Tape ({ a0 with f_i := (IntKind.wrap .i64 (a0.f_i + (1:Int))) } : nsggen_Tape))] ?_
    refine AWP.ret ?_
    have hr := someb hF
    subst hr
    exact (FnQ.f0 1 (.inr rfl))
def R_nsgref3_Top (r : Int) : PV → List Blk → Prop := fun p K => p = (u32 r) ∧ K = []
abbrev Q_nsgref3_Top (r : Int) : Exit → St → List Blk → Prop := FnQ Tryd.prog Tryd.f30.results 0 (R_nsgref3_Top r)
theorem K_nsgref3_Top (a0 : Int) (r : Int) (hF : F_nsgref3_Top a0 = some r) : ACall Tryd.prog glob 30 [(i64 a0)] [] (R_nsgref3_Top r) := by
  refine ACall.body Tryd.func30 rfl (by kernel_rfl) ?_
  unfold F_nsgref3_Top at hF
  refine AWP.seq ?_
  refine AWP.rg0 [] [(0, (i64 a0))] ?_
  obtain ⟨o12, h13, hF⟩ := bindb hF
  refine AWP.seq ?_
  refine AWP.mid (fun e st H => (e = .normal ∧ o12 = (.inl ()) ∧ st = [] ∧ H = []) ∨ (e = .ret ∧ ∃ (r : Int), o12 = (.inr r) ∧ Q_nsgref3_Top r e st H)) ?_ ?_
  · clear hF
    have hF := h13
    refine AWP.seq ?_
    refine AWP.rg0 [] [(3, (i64 a0))] ?_
    refine AWP.block ?_
    obtain ⟨v15, h16, hF⟩ := bindb hF
    refine AWP.seq ?_
    refine AWP.mid (fun e st H => e = .normal ∧ st = [(3, (i64 a0)), (4, (vb v15))] ∧ H = []) ?_ ?_
    · clear hF
      have hF := h16
      refine AWP.seq ?_
      refine AWP.rg0 [] [(3, (i64 a0)), (4, (vb (a0 == (0:Int))))] ?_
      refine AWP.cif hF (fun h17 hF => ?_) (fun h17 hF => ?_)
      · refine AWP.skip ?_
        refine LeQ.start ?_
        refine LeQ.pk [3, 4] 0 ?_
        have hr := someb hF
        subst hr
        exact ⟨rfl, by kernel_rfl, by kernel_rfl⟩
      · refine AWP.rg0 [] [(3, (i64 a0)), (4, (vb (a0 == (1:Int))))] ?_
        refine LeQ.start ?_
        refine LeQ.pk [3, 4] 0 ?_
        have hr := someb hF
        subst hr
        exact ⟨rfl, by kernel_rfl, by kernel_rfl⟩
    · rintro _ _ _ ⟨rfl, rfl, rfl⟩
      refine AWP.cif hF (fun h24 hF => ?_) (fun h24 hF => ?_)
      · refine AWP.seq ?_
        refine AWP.rg0 [] [(2, (u32 (4294967295:Int)))] ?_
        refine AWP.ret ?_
        exact LeQ.of (.inr ⟨rfl, (4294967295:Int), (someb hF).symm, (FnQ.f0 0 (.inr rfl))⟩)
      · refine AWP.seq ?_
        refine AWP.rg0 [] [(3, (i64 a0)), (7, (vb (a0 == (2:Int))))] ?_
        refine AWP.cif hF (fun h23 hF => ?_) (fun h23 hF => ?_)
        · refine AWP.seq ?_
          refine AWP.rg0 [] [(2, (u32 (255:Int)))] ?_
          refine AWP.ret ?_
          exact LeQ.of (.inr ⟨rfl, (255:Int), (someb hF).symm, (FnQ.f0 0 (.inr rfl))⟩)
        · obtain ⟨v19, h20, hF⟩ := bindb hF
          refine AWP.seq ?_
          refine AWP.mid (fun e st H => e = .normal ∧ st = [(9, (vb v19))] ∧ H = []) ?_ ?_
          · clear hF
            have hF := h20
            refine AWP.seq ?_
            refine AWP.rg0 [] [(3, (i64 a0)), (9, (vb (a0 == (3:Int))))] ?_
            refine AWP.cif hF (fun h21 hF => ?_) (fun h21 hF => ?_)
            · refine AWP.skip ?_
              refine LeQ.start ?_
              refine LeQ.pk [9] 0 ?_
              have hr := someb hF
              subst hr
              exact ⟨rfl, by kernel_rfl, by kernel_rfl⟩
            · refine AWP.rg0 [] [(9, (vb (a0 == (4:Int))))] ?_
              refine LeQ.start ?_
              refine LeQ.pk [9] 0 ?_
              have hr := someb hF
              subst hr
              exact ⟨rfl, by kernel_rfl, by kernel_rfl⟩
          · rintro _ _ _ ⟨rfl, rfl, rfl⟩
            refine AWP.cif hF (fun h22 hF => ?_) (fun h22 hF => ?_)
            · refine AWP.seq ?_
              refine AWP.rg0 [] [(2, (u32 (65535:Int)))] ?_
              refine AWP.ret ?_
              exact LeQ.of (.inr ⟨rfl, (65535:Int), (someb hF).symm, (FnQ.f0 0 (.inr rfl))⟩)
            · refine AWP.skip ?_
              refine LeQ.start ?_
              refine LeQ.pk [] 0 ?_
              exact (.inl ⟨rfl, (someb hF).symm, by kernel_rfl, by kernel_rfl⟩)
  · rintro _ _ _ (⟨rfl, rfl, rfl, rfl⟩ | ⟨rfl, r25, rfl, hq⟩)
    · refine AWP.seq ?_
      refine AWP.rg0 [] [(2, (u32 (0:Int)))] ?_
      refine AWP.ret ?_
      have hr := someb hF
      subst hr
      exact (FnQ.f0 0 (.inr rfl))
    · have hr := someb hF
      subst hr
      exact hq
def R_nsgref3_Full (r : (Arr5 api_Range)) : PV → List Blk → Prop := fun p K => p = (pv_a5_api_Range r) ∧ K = []
abbrev Q_nsgref3_Full (r : (Arr5 api_Range)) : Exit → St → List Blk → Prop := FnQ Tryd.prog Tryd.f27.results 0 (R_nsgref3_Full r)
theorem K_nsgref3_Full (r : (Arr5 api_Range)) (hF : F_nsgref3_Full = some r) : ACall Tryd.prog glob 27 [] [] (R_nsgref3_Full r) := by
  refine ACall.body Tryd.func27 rfl (by kernel_rfl) ?_
  unfold F_nsgref3_Full at hF
  refine AWP.seq ?_
  refine AWP.rg [] [(0, (.ptr 0 0))] [.cells (row_a5_api_Range z_a5_api_Range)] ?_
  refine AWP.seq ?_
  refine AWP.rg [] [(0, (.ptr 0 0)), (1, (.ptr 1 0))] [.cells (row_a5_api_Range z_a5_api_Range), .cells (row_a5_api_Range z_a5_api_Range)] ?_
  refine AWP.seq ?_
  refine AWP.seq ?_
  refine AWP.rg0 [] [(0, (.ptr 0 0)), (1, (.ptr 1 0)), (2, (i64 (0:Int)))] ?_
  obtain ⟨v16, h17, hF⟩ := bindb hF
  refine AWP.mid (fun e st H => e = .normal ∧ st = [(0, (.ptr 0 0)), (1, (.ptr 1 0))] ∧ H = [.cells (row_a5_api_Range z_a5_api_Range), .cells (row_a5_api_Range v16)]) ?_ ?_
  · clear hF
    refine AWP.kp [0, 1, 2] 2 ?_
    refine AWP.bround (fun n st H => ∃ (v8 : (Arr5 api_Range)), ∃ (v9 : Int), F_nsgref3_Full_L1 n v8 v9 = some v16 ∧ st = [(0, (.ptr 0 0)), (1, (.ptr 1 0)), (2, (i64 v9))] ∧ H = [.cells (row_a5_api_Range z_a5_api_Range), .cells (row_a5_api_Range v8)]) fuel ⟨z_a5_api_Range, (0:Int), h17, by kernel_rfl, by kernel_rfl⟩ ?_
    rintro n18 st H ⟨v8, v9, hF, rfl, rfl⟩
    cases n18 with
    | zero => exact noneb hF
    | succ n18 =>
      rw [F_nsgref3_Full_L1] at hF
      refine AWP.seq ?_
      refine AWP.seq ?_
      refine AWP.rg0 [] [(0, (.ptr 0 0)), (1, (.ptr 1 0)), (2, (i64 v9)), (4, (vb (decide (v9 < (5:Int)))))] ?_
      refine AWP.cif hF (fun h24 hF => ?_) (fun h24 hF => ?_)
      · refine AWP.skip ?_
        refine AWP.seq ?_
        refine AWP.block ?_
        obtain ⟨r19, h20, hF⟩ := bindb hF
        obtain ⟨h21, hF⟩ := chkb hF
        refine AWP.rg [(2, .call Tryd.func30 [] (K_nsgref3_Top v9 r19 h20)), (3, .ixd h21), (5, .stA (fun q23 => row_a5_api_Range (Arr5.set v8 q23 ({ (Arr5.get v8 q23) with Hi := r19 } : api_Range))) 0 2 1 h21)] [(0, (.ptr 0 0)), (1, (.ptr 1 0)), (2, (i64 v9))] [.cells (row_a5_api_Range z_a5_api_Range), .cells (row_a5_api_Range (Arr5.set v8 v9 ({ (Arr5.get v8 v9) with Hi := r19 } : api_Range)))] ?_
        refine AWP.rg0 [] [(0, (.ptr 0 0)), (1, (.ptr 1 0)), (2, (i64 (IntKind.wrap .i64 (v9 + (1:Int)))))] ?_
        refine LeQ.start ?_
        refine LeQ.pk [0, 1, 2] 2 ?_
        exact ⟨n18, Nat.lt_succ_self _, (Arr5.set v8 v9 ({ (Arr5.get v8 v9) with Hi := r19 } : api_Range)), (IntKind.wrap .i64 (v9 + (1:Int))), hF, by kernel_rfl, by kernel_rfl⟩
      · refine AWP.exit ?_
        refine LeQ.start ?_
        refine LeQ.pk [0, 1] 2 ?_
        have hr := someb hF
        subst hr
        exact ⟨rfl, by kernel_rfl, by kernel_rfl⟩
  · rintro _ _ _ ⟨rfl, rfl, rfl⟩
    refine AWP.seq ?_
    refine AWP.rg [] [(0, (.ptr 0 0))] [.cells (row_a5_api_Range v16), .cells (row_a5_api_Range v16)] ?_
    refine AWP.ret ?_
    have hr := someb hF
    subst hr
    exact (FnQ.f0 0 (.inr rfl))
def R_nsggen_Tape_Number (r : (Int × nsggen_Tape)) : PV → List Blk → Prop := fun p K => p = (u32 r.1) ∧ K = [.cells (row_nsggen_Tape r.2)]
abbrev Q_nsggen_Tape_Number (r : (Int × nsggen_Tape)) : Exit → St → List Blk → Prop := FnQ Tryd.prog Tryd.f53.results 1 (R_nsggen_Tape_Number r)
theorem K_nsggen_Tape_Number (a0 : nsggen_Tape) (a1 : Int) (r : (Int × nsggen_Tape)) (hF : F_nsggen_Tape_Number a0 a1 = some r) : ACall Tryd.prog glob 53 [(.ptr 0 0), (u32 a1)] [.cells (row_nsggen_Tape a0)] (R_nsggen_Tape_Number r) := by
  refine ACall.body Tryd.func53 rfl (by kernel_rfl) ?_
  unfold F_nsggen_Tape_Number at hF
  refine AWP.seq ?_
  refine AWP.rg0 [] [(0, (.ptr 0 0)), (1, (u32 a1))] ?_
  refine AWP.seq ?_
  obtain ⟨r1, h2, hF⟩ := bindb hF
  obtain ⟨x3, h4, hF⟩ := bindb hF
  refine AWP.rg [(7, .call Tryd.func18 [] (K_nsggen_Tape_Next a0 (17:Int) r1 h2)), (8, .idx row_u32 h4)] [(1, (u32 a1)), (5, (u32 x3))] [.cells (row_nsggen_Tape r1.2)] ?_
  refine AWP.seq ?_
  refine AWP.rg0 [] [(4, (u32 (iMin x3 a1)))] ?_
  refine AWP.ret ?_
  have hr := someb hF
  subst hr
  exact (FnQ.f0 1 (.inr rfl))
def R_nsggen_Subnet (r : api_Prefix) : PV → List Blk → Prop := fun p K => p = (pv_api_Prefix r) ∧ K = []
abbrev Q_nsggen_Subnet (r : api_Prefix) : Exit → St → List Blk → Prop := FnQ Tryd.prog Tryd.f55.results 0 (R_nsggen_Subnet r)
theorem K_nsggen_Subnet (a0 : Int) (r : api_Prefix) (hF : F_nsggen_Subnet a0 = some r) : ACall Tryd.prog glob 55 [(i64 a0)] [] (R_nsggen_Subnet r) := by
  refine ACall.body Tryd.func55 rfl (by kernel_rfl) ?_
  unfold F_nsggen_Subnet at hF
  refine AWP.seq ?_
  refine AWP.rg [] [(0, (i64 a0)), (2, (.ptr 0 0))] [.cells (row_api_Prefix z_api_Prefix)] ?_
  refine AWP.seq ?_
  obtain ⟨r1, h2, hF⟩ := bindb hF
  obtain ⟨x3, h4, hF⟩ := bindb hF
  refine AWP.rg [(8, .call Tryd.func45 [] (K_nsggen_Mod a0 (6:Int) r1 h2)), (9, .idx row_api_Prefix h4)] [(2, (.ptr 0 0))] [.cells (row_api_Prefix x3)] ?_
  refine AWP.ret ?_
  have hr := someb hF
  subst hr
  exact (FnQ.f0 0 (.inr rfl))
def R_nsgref1_size (r : Int) : PV → List Blk → Prop := fun p K => p = (u64 r) ∧ K = []
abbrev Q_nsgref1_size (r : Int) : Exit → St → List Blk → Prop := FnQ Tryd.prog Tryd.f73.results 0 (R_nsgref1_size r)
theorem K_nsgref1_size (a0 : Int) (r : Int) (hF : F_nsgref1_size a0 = some r) : ACall Tryd.prog glob 73 [(i64 a0)] [] (R_nsgref1_size r) := by
  refine ACall.body Tryd.func73 rfl (by kernel_rfl) ?_
  unfold F_nsgref1_size at hF
  refine AWP.seq ?_
  refine AWP.rg0 [] [(0, (i64 a0))] ?_
  refine AWP.seq ?_
  obtain ⟨h1, hF⟩ := chkb hF
  refine AWP.rg0 [(3, .sh h1)] [(2, (u64 (bShl .u64 (1:Int) (IntKind.wrap .u64 (IntKind.wrap .i64 ((32:Int) - a0))))))] ?_
  refine AWP.ret ?_
  have hr := someb hF
  subst hr
  exact (FnQ.f0 0 (.inr rfl))
def R_nsgref1_Valid (r : Bool) : PV → List Blk → Prop := fun p K => p = (vb r) ∧ K = []
abbrev Q_nsgref1_Valid (r : Bool) : Exit → St → List Blk → Prop := FnQ Tryd.prog Tryd.f72.results 0 (R_nsgref1_Valid r)
theorem K_nsgref1_Valid (a0 : api_Prefix) (r : Bool) (hF : F_nsgref1_Valid a0 = some r) : ACall Tryd.prog glob 72 [(pv_api_Prefix a0)] [] (R_nsgref1_Valid r) := by
  refine ACall.body Tryd.func72 rfl (by kernel_rfl) ?_
  unfold F_nsgref1_Valid at hF
  refine AWP.seq ?_
  refine AWP.rg [] [(1, (.ptr 0 0))] [.cells (row_api_Prefix a0)] ?_
  refine AWP.seq ?_
  obtain ⟨b1, h2, hF⟩ := bindb hF
  replace h2 := someb h2
  obtain ⟨b3, h4, hF⟩ := bindb hF
  replace h4 := someb h4
  obtain ⟨v8, h9, hF⟩ := bindb hF
  refine AWP.to [(2, (vb v8))] [.cells (row_api_Prefix a0)] ?_ ?_
  · cases b1 with
    | false =>
      subst h4
      have h10 := someb (ifF h9 rfl)
      subst h10
      exact AWP.drT [(3, .bool h2)] 18 [] [] []
    | true =>
      cases b3 with
      | false =>
        have h11 := someb (ifF h9 rfl)
        subst h11
        exact AWP.drT [(3, .bool h2), (8, .bool h4)] 18 [] [] []
      | true =>
        have h12 := ifT h9 rfl
        obtain ⟨r5, h6, h12⟩ := bindb h12
        obtain ⟨h7, h12⟩ := chkb h12
        replace h12 := someb h12
        subst h12
        exact AWP.drT [(3, .bool h2), (8, .bool h4), (14, .call Tryd.func73 [] (K_nsgref1_size a0.Bits r5 h6)), (15, .rem h7)] 18 [] [] []
  refine AWP.ret ?_
  have hr := someb hF
  subst hr
  exact (FnQ.f0 0 (.inr rfl))
def R_nsgref1_Of (r : (api_Range × Bool)) : PV → List Blk → Prop := fun p K => p = (.tup [(pv_api_Range r.1), (vb r.2)]) ∧ K = []
abbrev Q_nsgref1_Of (r : (api_Range × Bool)) : Exit → St → List Blk → Prop := FnQ Tryd.prog Tryd.f54.results 0 (R_nsgref1_Of r)
theorem K_nsgref1_Of (a0 : api_Prefix) (r : (api_Range × Bool)) (hF : F_nsgref1_Of a0 = some r) : ACall Tryd.prog glob 54 [(pv_api_Prefix a0)] [] (R_nsgref1_Of r) := by
  refine ACall.body Tryd.func54 rfl (by kernel_rfl) ?_
  unfold F_nsgref1_Of at hF
  refine AWP.seq ?_
  refine AWP.rg [] [(1, (.ptr 0 0)), (2, (.ptr 1 0))] [.cells (row_api_Prefix a0), .cells (row_api_Range z_api_Range)] ?_
  refine AWP.seq ?_
  refine AWP.seq ?_
  obtain ⟨r1, h2, hF⟩ := bindb hF
  refine AWP.rg0 [(1, .call Tryd.func72 [] (K_nsgref1_Valid a0 r1 h2))] [(1, (.ptr 0 0)), (2, (.ptr 1 0)), (6, (vb (!r1)))] ?_
  refine AWP.cif hF (fun h5 hF => ?_) (fun h5 hF => ?_)
  · refine AWP.seq ?_
    refine AWP.rg [] [(2, (.ptr 1 0)), (3, (vb false))] [.cells (row_api_Prefix a0), .cells (row_api_Range (api_Range.mk (0:Int) (0:Int)))] ?_
    refine AWP.ret ?_
    have hr := someb hF
    subst hr
    exact (FnQ.f0 0 (.inr rfl))
  · refine AWP.skip ?_
    refine AWP.seq ?_
    obtain ⟨r3, h4, hF⟩ := bindb hF
    refine AWP.dr [(7, .call Tryd.func73 [] (K_nsgref1_size a0.Bits r3 h4))] 12 [] [] [] [(2, (.ptr 1 0)), (3, (vb true))] [.cells (row_api_Prefix a0), .cells (row_api_Range (api_Range.mk a0.Addr (IntKind.wrap .u32 (IntKind.wrap .u64 ((IntKind.wrap .u64 ((IntKind.wrap .u64 a0.Addr) + r3)) - (1:Int))))))] ?_
    refine AWP.ret ?_
    have hr := someb hF
    subst hr
    exact (FnQ.f0 0 (.inr rfl))
def R_nsggen_Tape_Move (r : (api_Move × nsggen_Tape)) : PV → List Blk → Prop := fun p K => p = (pv_api_Move r.1) ∧ K = [.cells (row_nsggen_Tape r.2)]
abbrev Q_nsggen_Tape_Move (r : (api_Move × nsggen_Tape)) : Exit → St → List Blk → Prop := FnQ Tryd.prog Tryd.f23.results 1 (R_nsggen_Tape_Move r)
theorem K_nsggen_Tape_Move (a0 : nsggen_Tape) (r : (api_Move × nsggen_Tape)) (hF : F_nsggen_Tape_Move a0 = some r) : ACall Tryd.prog glob 23 [(.ptr 0 0)] [.cells (row_nsggen_Tape a0)] (R_nsggen_Tape_Move r) := by
  refine ACall.body Tryd.func23 rfl (by kernel_rfl) ?_
  unfold F_nsggen_Tape_Move at hF
  refine AWP.seq ?_
  refine AWP.rg [] [(0, (.ptr 0 0)), (2, (.ptr 1 0))] [.cells (row_nsggen_Tape a0), .cells (row_api_Move z_api_Move)] ?_
  refine AWP.seq ?_
  obtain ⟨r1, h2, hF⟩ := bindb hF
  refine AWP.rg [(0, .call Tryd.func27 [] (K_nsgref3_Full r1 h2))] [(0, (.ptr 0 0)), (2, (.ptr 1 0)), (3, (.ptr 2 0))] [.cells (row_nsggen_Tape a0), .cells (row_api_Move z_api_Move), .cells (row_a5_api_Range r1)] ?_
  refine AWP.seq ?_
  obtain ⟨r3, h4, hF⟩ := bindb hF
  obtain ⟨x5, h6, hF⟩ := bindb hF
  refine AWP.rg [(2, .call Tryd.func18 [] (K_nsggen_Tape_Next a0 (2:Int) r3 h4)), (3, .idx row_u32 h6)] [(0, (.ptr 0 0)), (2, (.ptr 1 0)), (3, (.ptr 2 0)), (4, (u32 x5))] [.cells (row_nsggen_Tape r3.2), .cells (row_api_Move z_api_Move), .cells (row_a5_api_Range r1)] ?_
  refine AWP.seq ?_
  refine AWP.rg [] [(0, (.ptr 0 0)), (2, (.ptr 1 0)), (3, (.ptr 2 0))] [.cells (row_nsggen_Tape r3.2), .cells (row_api_Move z_api_Move), .cells (row_a5_api_Range ({ r1 with x2 := (api_Range.mk x5 x5) } : (Arr5 api_Range)))] ?_
  refine AWP.seq ?_
  obtain ⟨r7, h8, hF⟩ := bindb hF
  obtain ⟨x9, h10, hF⟩ := bindb hF
  obtain ⟨r11, h12, hF⟩ := bindb hF
  refine AWP.dr [(2, .call Tryd.func18 [] (K_nsggen_Tape_Next r3.2 (2:Int) r7 h8)), (3, .idx row_u32 h10), (6, .call Tryd.func53 [] (K_nsggen_Tape_Number r7.2 (65000:Int) r11 h12))] 8 [] [2, 6] [] [(0, (.ptr 0 0)), (2, (.ptr 1 0)), (3, (.ptr 2 0)), (5, (u32 x9)), (6, (u32 r11.1))] [.cells (row_nsggen_Tape r11.2), .cells (row_api_Move z_api_Move), .cells (row_a5_api_Range ({ r1 with x2 := (api_Range.mk x5 x5) } : (Arr5 api_Range)))] ?_
  refine AWP.seq ?_
  obtain ⟨r13, h14, hF⟩ := bindb hF
  obtain ⟨r15, h16, hF⟩ := bindb hF
  refine AWP.rg [(1, .call Tryd.func18 [] (K_nsggen_Tape_Next r11.2 (3:Int) r13 h14)), (4, .call Tryd.func18 [] (K_nsggen_Tape_Next r13.2 (4:Int) r15 h16))] [(0, (.ptr 0 0)), (2, (.ptr 1 0)), (3, (.ptr 2 0)), (5, (u32 x9)), (6, (u32 r11.1)), (7, (u32 (IntKind.wrap .u32 r13.1))), (8, (u32 (IntKind.wrap .u32 r15.1)))] [.cells (row_nsggen_Tape r15.2), .cells (row_api_Move z_api_Move), .cells (row_a5_api_Range ({ r1 with x2 := (api_Range.mk x5 x5) } : (Arr5 api_Range)))] ?_
  refine AWP.seq ?_
  refine AWP.rg0 [] [(0, (.ptr 0 0)), (2, (.ptr 1 0)), (3, (.ptr 2 0)), (5, (u32 x9)), (6, (u32 r11.1)), (7, (u32 (IntKind.wrap .u32 r13.1))), (8, (u32 (iMin (IntKind.wrap .u32 r15.1) (IntKind.wrap .u32 ((65535:Int) - r11.1)))))] ?_
  refine AWP.seq ?_
  refine AWP.rg [] [(0, (.ptr 0 0)), (2, (.ptr 1 0)), (3, (.ptr 2 0)), (7, (u32 (IntKind.wrap .u32 r13.1))), (8, (u32 (iMin (IntKind.wrap .u32 r15.1) (IntKind.wrap .u32 ((65535:Int) - r11.1)))))] [.cells (row_nsggen_Tape r15.2), .cells (row_api_Move z_api_Move), .cells (row_a5_api_Range ({ ({ ({ r1 with x2 := (api_Range.mk x5 x5) } : (Arr5 api_Range)) with x1 := (api_Range.mk x9 (IntKind.wrap .u32 (x9 + (IntKind.wrap .u32 r13.1)))) } : (Arr5 api_Range)) with x4 := (api_Range.mk r11.1 (IntKind.wrap .u32 (r11.1 + (iMin (IntKind.wrap .u32 r15.1) (IntKind.wrap .u32 ((65535:Int) - r11.1)))))) } : (Arr5 api_Range)))] ?_
  refine AWP.seq ?_
  refine AWP.rg [] [(0, (.ptr 0 0)), (2, (.ptr 1 0)), (3, (.ptr 2 0)), (7, (u32 (IntKind.wrap .u32 r13.1))), (8, (u32 (iMin (IntKind.wrap .u32 r15.1) (IntKind.wrap .u32 ((65535:Int) - r11.1))))), (9, (.ptr 3 0))] [.cells (row_nsggen_Tape r15.2), .cells (row_api_Move z_api_Move), .cells (row_a5_api_Range ({ ({ ({ r1 with x2 := (api_Range.mk x5 x5) } : (Arr5 api_Range)) with x1 := (api_Range.mk x9 (IntKind.wrap .u32 (x9 + (IntKind.wrap .u32 r13.1)))) } : (Arr5 api_Range)) with x4 := (api_Range.mk r11.1 (IntKind.wrap .u32 (r11.1 + (iMin (IntKind.wrap .u32 r15.1) (IntKind.wrap .u32 ((65535:Int) - r11.1)))))) } : (Arr5 api_Range))), .cells (row_a5_api_Range ({ ({ ({ r1 with x2 := (api_Range.mk x5 x5) } : (Arr5 api_Range)) with x1 := (api_Range.mk x9 (IntKind.wrap .u32 (x9 + (IntKind.wrap .u32 r13.1)))) } : (Arr5 api_Range)) with x4 := (api_Range.mk r11.1 (IntKind.wrap .u32 (r11.1 + (iMin (IntKind.wrap .u32 r15.1) (IntKind.wrap .u32 ((65535:Int) - r11.1)))))) } : (Arr5 api_Range)))] ?_
  refine AWP.seq ?_
  obtain ⟨r17, h18, hF⟩ := bindb hF
  obtain ⟨r19, h20, hF⟩ := bindb hF
  obtain ⟨r21, h22, hF⟩ := bindb hF
  refine AWP.rg [(1, .call Tryd.func18 [] (K_nsggen_Tape_Next r15.2 (5:Int) r17 h18)), (2, .call Tryd.func55 [] (K_nsggen_Subnet r17.1 r19 h20)), (3, .call Tryd.func54 [] (K_nsgref1_Of r19 r21 h22))] [(0, (.ptr 0 0)), (2, (.ptr 1 0)), (3, (.ptr 2 0)), (7, (u32 (IntKind.wrap .u32 r13.1))), (8, (u32 (iMin (IntKind.wrap .u32 r15.1) (IntKind.wrap .u32 ((65535:Int) - r11.1))))), (9, (.ptr 3 0)), (10, (.ptr 4 0))] [.cells (row_nsggen_Tape r17.2), .cells (row_api_Move z_api_Move), .cells (row_a5_api_Range ({ ({ ({ r1 with x2 := (api_Range.mk x5 x5) } : (Arr5 api_Range)) with x1 := (api_Range.mk x9 (IntKind.wrap .u32 (x9 + (IntKind.wrap .u32 r13.1)))) } : (Arr5 api_Range)) with x4 := (api_Range.mk r11.1 (IntKind.wrap .u32 (r11.1 + (iMin (IntKind.wrap .u32 r15.1) (IntKind.wrap .u32 ((65535:Int) - r11.1)))))) } : (Arr5 api_Range))), .cells (row_a5_api_Range ({ ({ ({ r1 with x2 := (api_Range.mk x5 x5) } : (Arr5 api_Range)) with x1 := (api_Range.mk x9 (IntKind.wrap .u32 (x9 + (IntKind.wrap .u32 r13.1)))) } : (Arr5 api_Range)) with x4 := (api_Range.mk r11.1 (IntKind.wrap .u32 (r11.1 + (iMin (IntKind.wrap .u32 r15.1) (IntKind.wrap .u32 ((65535:Int) - r11.1)))))) } : (Arr5 api_Range))), .cells (row_api_Range r21.1)] ?_
  refine AWP.seq ?_
  obtain ⟨r23, h24, hF⟩ := bindb hF
  refine AWP.rg [(1, .call Tryd.func53 [] (K_nsggen_Tape_Number r17.2 (65000:Int) r23 h24))] [(2, (.ptr 1 0)), (3, (.ptr 2 0)), (6, (u32 r23.1)), (7, (u32 (IntKind.wrap .u32 r13.1))), (8, (u32 (iMin (IntKind.wrap .u32 r15.1) (IntKind.wrap .u32 ((65535:Int) - r11.1))))), (9, (.ptr 3 0)), (10, (.ptr 4 0))] [.cells (row_nsggen_Tape r23.2), .cells (row_api_Move z_api_Move), .cells (row_a5_api_Range ({ ({ ({ r1 with x2 := (api_Range.mk x5 x5) } : (Arr5 api_Range)) with x1 := (api_Range.mk x9 (IntKind.wrap .u32 (x9 + (IntKind.wrap .u32 r13.1)))) } : (Arr5 api_Range)) with x4 := (api_Range.mk r11.1 (IntKind.wrap .u32 (r11.1 + (iMin (IntKind.wrap .u32 r15.1) (IntKind.wrap .u32 ((65535:Int) - r11.1)))))) } : (Arr5 api_Range))), .cells (row_a5_api_Range ({ ({ ({ r1 with x2 := (api_Range.mk x5 x5) } : (Arr5 api_Range)) with x1 := (api_Range.mk x9 (IntKind.wrap .u32 (x9 + (IntKind.wrap .u32 r13.1)))) } : (Arr5 api_Range)) with x4 := (api_Range.mk r11.1 (IntKind.wrap .u32 (r11.1 + (iMin (IntKind.wrap .u32 r15.1) (IntKind.wrap .u32 ((65535:Int) - r11.1)))))) } : (Arr5 api_Range))), .cells (row_api_Range r21.1)] ?_
  refine AWP.seq ?_
  refine AWP.rg0 [] [(2, (.ptr 1 0)), (3, (.ptr 2 0)), (6, (u32 (iMin r23.1 (IntKind.wrap .u32 ((65535:Int) - (iMin (IntKind.wrap .u32 r15.1) (IntKind.wrap .u32 ((65535:Int) - r11.1)))))))), (7, (u32 (IntKind.wrap .u32 r13.1))), (8, (u32 (iMin (IntKind.wrap .u32 r15.1) (IntKind.wrap .u32 ((65535:Int) - r11.1))))), (9, (.ptr 3 0)), (10, (.ptr 4 0))] ?_
  refine AWP.seq ?_
  refine AWP.rg [] [(2, (.ptr 1 0)), (3, (.ptr 2 0)), (9, (.ptr 3 0))] [.cells (row_nsggen_Tape r23.2), .cells (row_api_Move z_api_Move), .cells (row_a5_api_Range ({ ({ ({ r1 with x2 := (api_Range.mk x5 x5) } : (Arr5 api_Range)) with x1 := (api_Range.mk x9 (IntKind.wrap .u32 (x9 + (IntKind.wrap .u32 r13.1)))) } : (Arr5 api_Range)) with x4 := (api_Range.mk r11.1 (IntKind.wrap .u32 (r11.1 + (iMin (IntKind.wrap .u32 r15.1) (IntKind.wrap .u32 ((65535:Int) - r11.1)))))) } : (Arr5 api_Range))), .cells (row_a5_api_Range ({ ({ ({ ({ ({ r1 with x2 := (api_Range.mk x5 x5) } : (Arr5 api_Range)) with x1 := (api_Range.mk x9 (IntKind.wrap .u32 (x9 + (IntKind.wrap .u32 r13.1)))) } : (Arr5 api_Range)) with x4 := (api_Range.mk r11.1 (IntKind.wrap .u32 (r11.1 + (iMin (IntKind.wrap .u32 r15.1) (IntKind.wrap .u32 ((65535:Int) - r11.1)))))) } : (Arr5 api_Range)) with x1 := (api_Range.mk r21.1.Lo (IntKind.wrap .u32 (r21.1.Lo + (IntKind.wrap .u32 r13.1)))) } : (Arr5 api_Range)) with x4 := (api_Range.mk (iMin r23.1 (IntKind.wrap .u32 ((65535:Int) - (iMin (IntKind.wrap .u32 r15.1) (IntKind.wrap .u32 ((65535:Int) - r11.1)))))) (IntKind.wrap .u32 ((iMin r23.1 (IntKind.wrap .u32 ((65535:Int) - (iMin (IntKind.wrap .u32 r15.1) (IntKind.wrap .u32 ((65535:Int) - r11.1)))))) + (iMin (IntKind.wrap .u32 r15.1) (IntKind.wrap .u32 ((65535:Int) - r11.1)))))) } : (Arr5 api_Range))), .cells (row_api_Range r21.1)] ?_
  refine AWP.seq ?_
  refine AWP.rg [] [(2, (.ptr 1 0))] [.cells (row_nsggen_Tape r23.2), .cells (row_api_Move (api_Move.mk ({ ({ ({ r1 with x2 := (api_Range.mk x5 x5) } : (Arr5 api_Range)) with x1 := (api_Range.mk x9 (IntKind.wrap .u32 (x9 + (IntKind.wrap .u32 r13.1)))) } : (Arr5 api_Range)) with x4 := (api_Range.mk r11.1 (IntKind.wrap .u32 (r11.1 + (iMin (IntKind.wrap .u32 r15.1) (IntKind.wrap .u32 ((65535:Int) - r11.1)))))) } : (Arr5 api_Range)) ({ ({ ({ ({ ({ r1 with x2 := (api_Range.mk x5 x5) } : (Arr5 api_Range)) with x1 := (api_Range.mk x9 (IntKind.wrap .u32 (x9 + (IntKind.wrap .u32 r13.1)))) } : (Arr5 api_Range)) with x4 := (api_Range.mk r11.1 (IntKind.wrap .u32 (r11.1 + (iMin (IntKind.wrap .u32 r15.1) (IntKind.wrap .u32 ((65535:Int) - r11.1)))))) } : (Arr5 api_Range)) with x1 := (api_Range.mk r21.1.Lo (IntKind.wrap .u32 (r21.1.Lo + (IntKind.wrap .u32 r13.1)))) } : (Arr5 api_Range)) with x4 := (api_Range.mk (iMin r23.1 (IntKind.wrap .u32 ((65535:Int) - (iMin (IntKind.wrap .u32 r15.1) (IntKind.wrap .u32 ((65535:Int) - r11.1)))))) (IntKind.wrap .u32 ((iMin r23.1 (IntKind.wrap .u32 ((65535:Int) - (iMin (IntKind.wrap .u32 r15.1) (IntKind.wrap .u32 ((65535:Int) - r11.1)))))) + (iMin (IntKind.wrap .u32 r15.1) (IntKind.wrap .u32 ((65535:Int) - r11.1)))))) } : (Arr5 api_Range)))), .cells (row_a5_api_Range ({ ({ ({ r1 with x2 := (api_Range.mk x5 x5) } : (Arr5 api_Range)) with x1 := (api_Range.mk x9 (IntKind.wrap .u32 (x9 + (IntKind.wrap .u32 r13.1)))) } : (Arr5 api_Range)) with x4 := (api_Range.mk r11.1 (IntKind.wrap .u32 (r11.1 + (iMin (IntKind.wrap .u32 r15.1) (IntKind.wrap .u32 ((65535:Int) - r11.1)))))) } : (Arr5 api_Range))), .cells (row_a5_api_Range ({ ({ ({ ({ ({ r1 with x2 := (api_Range.mk x5 x5) } : (Arr5 api_Range)) with x1 := (api_Range.mk x9 (IntKind.wrap .u32 (x9 + (IntKind.wrap .u32 r13.1)))) } : (Arr5 api_Range)) with x4 := (api_Range.mk r11.1 (IntKind.wrap .u32 (r11.1 + (iMin (IntKind.wrap .u32 r15.1) (IntKind.wrap .u32 ((65535:Int) - r11.1)))))) } : (Arr5 api_Range)) with x1 := (api_Range.mk r21.1.Lo (IntKind.wrap .u32 (r21.1.Lo + (IntKind.wrap .u32 r13.1)))) } : (Arr5 api_Range)) with x4 := (api_Range.mk (iMin r23.1 (IntKind.wrap .u32 ((65535:Int) - (iMin (IntKind.wrap .u32 r15.1) (IntKind.wrap .u32 ((65535:Int) - r11.1)))))) (IntKind.wrap .u32 ((iMin r23.1 (IntKind.wrap .u32 ((65535:Int) - (iMin (IntKind.wrap .u32 r15.1) (IntKind.wrap .u32 ((65535:Int) - r11.1)))))) + (iMin (IntKind.wrap .u32 r15.1) (IntKind.wrap .u32 ((65535:Int) - r11.1)))))) } : (Arr5 api_Range))), .cells (row_api_Range r21.1)] ?_
  refine AWP.ret ?_
  have hr := someb hF
  subst hr
  exact (FnQ.f0 1 (.inr rfl))
def R_nsggen_Tape_SpoilBox (r : ((Arr5 api_Range) × nsggen_Tape)) : PV → List Blk → Prop := fun p K => p = (pv_a5_api_Range r.1) ∧ K = [.cells (row_nsggen_Tape r.2)]
abbrev Q_nsggen_Tape_SpoilBox (r : ((Arr5 api_Range) × nsggen_Tape)) : Exit → St → List Blk → Prop := FnQ Tryd.prog Tryd.f24.results 1 (R_nsggen_Tape_SpoilBox r)
theorem K_nsggen_Tape_SpoilBox (a0 : nsggen_Tape) (a1 : (Arr5 api_Range)) (r : ((Arr5 api_Range) × nsggen_Tape)) (hF : F_nsggen_Tape_SpoilBox a0 a1 = some r) : ACall Tryd.prog glob 24 [(.ptr 0 0), (pv_a5_api_Range a1)] [.cells (row_nsggen_Tape a0)] (R_nsggen_Tape_SpoilBox r) := by
  refine ACall.body Tryd.func24 rfl (by kernel_rfl) ?_
  unfold F_nsggen_Tape_SpoilBox at hF
  refine AWP.seq ?_
  refine AWP.rg [] [(0, (.ptr 0 0)), (3, (.ptr 1 0)), (4, (.ptr 2 0))] [.cells (row_nsggen_Tape a0), .cells (row_a5_api_Range a1), .cells (row_a5_api_Range z_a5_api_Range)] ?_
  refine AWP.seq ?_
  obtain ⟨r1, h2, hF⟩ := bindb hF
  refine AWP.rg [(1, .call Tryd.func18 [] (K_nsggen_Tape_Next a0 (5:Int) r1 h2))] [(0, (.ptr 0 0)), (3, (.ptr 1 0)), (4, (.ptr 2 0)), (5, (i64 r1.1))] [.cells (row_nsggen_Tape r1.2), .cells (row_a5_api_Range a1), .cells (row_a5_api_Range z_a5_api_Range)] ?_
  obtain ⟨o27, h28, hF⟩ := bindb hF
  refine AWP.seq ?_
  refine AWP.mid (fun e st H => (e = .normal ∧ ∃ (v25 : nsggen_Tape), ∃ (v26 : (Arr5 api_Range)), o27 = (v25, v26) ∧ st = [(3, (.ptr 1 0)), (4, (.ptr 2 0))] ∧ H = [.cells (row_nsggen_Tape v25), .cells (row_a5_api_Range v26), .cells (row_a5_api_Range z_a5_api_Range)])) ?_ ?_
  · clear hF
    have hF := h28
    refine AWP.seq ?_
    obtain ⟨r29, h30, hF⟩ := bindb hF
    refine AWP.rg [(1, .call Tryd.func18 [] (K_nsggen_Tape_Next r1.2 (3:Int) r29 h30))] [(3, (.ptr 1 0)), (4, (.ptr 2 0)), (5, (i64 r1.1)), (9, (i64 r29.1))] [.cells (row_nsggen_Tape r29.2), .cells (row_a5_api_Range a1), .cells (row_a5_api_Range z_a5_api_Range)] ?_
    refine AWP.block ?_
    refine AWP.seq ?_
    refine AWP.rg0 [] [(3, (.ptr 1 0)), (4, (.ptr 2 0)), (5, (i64 r1.1)), (9, (i64 r29.1)), (13, (vb (r29.1 == (0:Int))))] ?_
    refine AWP.cif hF (fun h50 hF => ?_) (fun h50 hF => ?_)
    · obtain ⟨h31, hF⟩ := chkb hF
      obtain ⟨h32, hF⟩ := chkb hF
      obtain ⟨h33, hF⟩ := chkb hF
      obtain ⟨h35, hF⟩ := chkb hF
      refine AWP.dr [(3, .ixd h31), (5, .ldA row_api_Range (Arr5.get a1) 0 2 1 h31), (7, .ixd h32), (9, .ldA row_api_Range (Arr5.get a1) 0 2 0 h32), (10, .ixd h33), (12, .stA (fun q39 => row_a5_api_Range (Arr5.set a1 q39 ({ (Arr5.get a1 q39) with Lo := (Arr5.get a1 r1.1).Hi } : api_Range))) 0 2 0 h33), (13, .ixd h35), (15, .stA (fun q40 => row_a5_api_Range (Arr5.set (Arr5.set a1 r1.1 ({ (Arr5.get a1 r1.1) with Lo := (Arr5.get a1 r1.1).Hi } : api_Range)) q40 ({ (Arr5.get (Arr5.set a1 r1.1 ({ (Arr5.get a1 r1.1) with Lo := (Arr5.get a1 r1.1).Hi } : api_Range)) q40) with Hi := (Arr5.get a1 r1.1).Lo } : api_Range))) 0 2 1 h35)] 13 [] [12] [] [(3, (.ptr 1 0)), (4, (.ptr 2 0))] [.cells (row_nsggen_Tape r29.2), .cells (row_a5_api_Range (Arr5.set (Arr5.set a1 r1.1 ({ (Arr5.get a1 r1.1) with Lo := (Arr5.get a1 r1.1).Hi } : api_Range)) r1.1 ({ (Arr5.get (Arr5.set a1 r1.1 ({ (Arr5.get a1 r1.1) with Lo := (Arr5.get a1 r1.1).Hi } : api_Range)) r1.1) with Hi := (Arr5.get a1 r1.1).Lo } : api_Range))), .cells (row_a5_api_Range z_a5_api_Range)] ?_
      refine LeQ.start ?_
      refine LeQ.pk [3, 4] 3 ?_
      exact ⟨rfl, r29.2, (Arr5.set (Arr5.set a1 r1.1 ({ (Arr5.get a1 r1.1) with Lo := (Arr5.get a1 r1.1).Hi } : api_Range)) r1.1 ({ (Arr5.get (Arr5.set a1 r1.1 ({ (Arr5.get a1 r1.1) with Lo := (Arr5.get a1 r1.1).Hi } : api_Range)) r1.1) with Hi := (Arr5.get a1 r1.1).Lo } : api_Range)), (someb hF).symm, by kernel_rfl, by kernel_rfl⟩
    · refine AWP.seq ?_
      refine AWP.rg0 [] [(3, (.ptr 1 0)), (4, (.ptr 2 0)), (5, (i64 r1.1)), (29, (vb (r29.1 == (1:Int))))] ?_
      refine AWP.cif hF (fun h49 hF => ?_) (fun h49 hF => ?_)
      · obtain ⟨h43, hF⟩ := chkb hF
        refine AWP.rg [(1, .ixd h43), (3, .stA (fun q45 => row_a5_api_Range (Arr5.set a1 q45 ({ (Arr5.get a1 q45) with Hi := (4294967295:Int) } : api_Range))) 0 2 1 h43)] [(3, (.ptr 1 0)), (4, (.ptr 2 0))] [.cells (row_nsggen_Tape r29.2), .cells (row_a5_api_Range (Arr5.set a1 r1.1 ({ (Arr5.get a1 r1.1) with Hi := (4294967295:Int) } : api_Range))), .cells (row_a5_api_Range z_a5_api_Range)] ?_
        refine LeQ.start ?_
        refine LeQ.pk [3, 4] 3 ?_
        exact ⟨rfl, r29.2, (Arr5.set a1 r1.1 ({ (Arr5.get a1 r1.1) with Hi := (4294967295:Int) } : api_Range)), (someb hF).symm, by kernel_rfl, by kernel_rfl⟩
      · obtain ⟨h46, hF⟩ := chkb hF
        refine AWP.rg [(2, .ixd h46), (3, .stA (fun q48 => row_a5_api_Range (Arr5.set a1 q48 (api_Range.mk (1:Int) (0:Int)))) 0 2 0 h46)] [(3, (.ptr 1 0)), (4, (.ptr 2 0))] [.cells (row_nsggen_Tape r29.2), .cells (row_a5_api_Range (Arr5.set a1 r1.1 (api_Range.mk (1:Int) (0:Int)))), .cells (row_a5_api_Range z_a5_api_Range)] ?_
        refine LeQ.start ?_
        refine LeQ.pk [3, 4] 3 ?_
        exact ⟨rfl, r29.2, (Arr5.set a1 r1.1 (api_Range.mk (1:Int) (0:Int))), (someb hF).symm, by kernel_rfl, by kernel_rfl⟩
  · rintro _ _ _ ⟨rfl, v25, v26, rfl, rfl, rfl⟩
    refine AWP.seq ?_
    refine AWP.rg [] [(4, (.ptr 2 0))] [.cells (row_nsggen_Tape v25), .cells (row_a5_api_Range v26), .cells (row_a5_api_Range v26)] ?_
    refine AWP.ret ?_
    have hr := someb hF
    subst hr
    exact (FnQ.f0 1 (.inr rfl))
def R_nsggen_Tape_Moves (r : ((List api_Move) × nsggen_Tape)) : PV → List Blk → Prop := fun p K => p = (slc 20 row_api_Move r.1) ∧ K = [.cells (row_nsggen_Tape r.2)]
abbrev Q_nsggen_Tape_Moves (r : ((List api_Move) × nsggen_Tape)) : Exit → St → List Blk → Prop := FnQ Tryd.prog Tryd.f7.results 1 (R_nsggen_Tape_Moves r)
theorem K_nsggen_Tape_Moves (a0 : nsggen_Tape) (a1 : Int) (a2 : Bool) (r : ((List api_Move) × nsggen_Tape)) (hF : F_nsggen_Tape_Moves a0 a1 a2 = some r) : ACall Tryd.prog glob 7 [(.ptr 0 0), (i64 a1), (vb a2)] [.cells (row_nsggen_Tape a0)] (R_nsggen_Tape_Moves r) := by
  refine ACall.body Tryd.func7 rfl (by kernel_rfl) ?_
  unfold F_nsggen_Tape_Moves at hF
  refine AWP.seq ?_
  refine AWP.rg0 [] [(0, (.ptr 0 0)), (1, (i64 a1)), (2, (vb a2))] ?_
  refine AWP.seq ?_
  refine AWP.rg0 [] [(0, (.ptr 0 0)), (1, (i64 a1)), (2, (vb a2)), (7, nils)] ?_
  refine AWP.own (H' := [.cells (row_nsggen_Tape a0), bf 20 59 row_api_Move ([] : (List api_Move)) false]) (st' := [(7, (.own 1 (List.length ([] : (List api_Move))))), (0, (.ptr 0 0)), (1, (i64 a1)), (2, (vb a2))]) 7 20 59 (by kernel_rfl) (by kernel_rfl) (by kernel_rfl) ?_
  refine AWP.pick (st' := [(0, (.ptr 0 0)), (1, (i64 a1)), (2, (vb a2)), (7, (.own 1 (List.length ([] : (List api_Move)))))]) (ks := [0, 1, 2, 7]) (by kernel_rfl) ?_
  refine AWP.seq ?_
  refine AWP.seq ?_
  obtain ⟨r1, h2, hF⟩ := bindb hF
  refine AWP.rg [(3, .call Tryd.func18 [] (K_nsggen_Tape_Next a0 (IntKind.wrap .i64 (a1 + (1:Int))) r1 h2))] [(0, (.ptr 0 0)), (2, (vb a2)), (7, (.own 1 (List.length ([] : (List api_Move))))), (8, (i64 r1.1))] [.cells (row_nsggen_Tape r1.2), bf 20 59 row_api_Move ([] : (List api_Move)) false] ?_
  obtain ⟨o223, h224, hF⟩ := bindb hF
  refine AWP.mid (fun e st H => (e = .normal ∧ ∃ (v221 : nsggen_Tape), ∃ (v222 : (List api_Move)), o223 = (v221, v222) ∧ st = [(7, (.own 1 (List.length v222)))] ∧ H = [.cells (row_nsggen_Tape v221), bf 20 59 row_api_Move v222 false])) ?_ ?_
  · clear hF
    refine AWP.kp [0, 2, 7, 8] 2 ?_
    refine AWP.bround (fun n st H => ∃ (v111 : nsggen_Tape), ∃ (v112 : (List api_Move)), ∃ (v113 : Int), F_nsggen_Tape_Moves_L1 a2 n v111 v112 v113 = some o223 ∧ st = [(0, (.ptr 0 0)), (2, (vb a2)), (7, (.own 1 (List.length v112))), (8, (i64 v113))] ∧ H = [.cells (row_nsggen_Tape v111), bf 20 59 row_api_Move v112 false]) fuel ⟨r1.2, ([] : (List api_Move)), r1.1, h224, by kernel_rfl, by kernel_rfl⟩ ?_
    rintro n225 st H ⟨v111, v112, v113, hF, rfl, rfl⟩
    cases n225 with
    | zero => exact noneb hF
    | succ n225 =>
      rw [F_nsggen_Tape_Moves_L1] at hF
      refine AWP.seq ?_
      refine AWP.seq ?_
      refine AWP.rg0 [] [(0, (.ptr 0 0)), (2, (vb a2)), (7, (.own 1 (List.length v112))), (8, (i64 v113)), (15, (vb (decide (v113 > (0:Int)))))] ?_
      refine AWP.cif hF (fun h332 hF => ?_) (fun h332 hF => ?_)
      · refine AWP.skip ?_
        obtain ⟨o279, h280, hF⟩ := bindb hF
        refine AWP.seq ?_
        refine AWP.mid (fun e st H => (e = .normal ∧ ∃ (v277 : nsggen_Tape), ∃ (v278 : (List api_Move)), o279 = (v277, v278) ∧ st = [(0, (.ptr 0 0)), (2, (vb a2)), (7, (.own 1 (List.length v278))), (8, (i64 v113))] ∧ H = [.cells (row_nsggen_Tape v277), bf 20 59 row_api_Move v278 false])) ?_ ?_
        · clear hF
          have hF := h280
          refine AWP.block ?_
          refine AWP.seq ?_
          obtain ⟨r281, h282, hF⟩ := bindb hF
          refine AWP.rg [(1, .call Tryd.func23 [] (K_nsggen_Tape_Move v111 r281 h282))] [(0, (.ptr 0 0)), (2, (vb a2)), (7, (.own 1 (List.length v112))), (8, (i64 v113)), (9, (.ptr 2 0))] [.cells (row_nsggen_Tape r281.2), bf 20 59 row_api_Move v112 false, .cells (row_api_Move r281.1)] ?_
          obtain ⟨o296, h297, hF⟩ := bindb hF
          refine AWP.seq ?_
          refine AWP.mid (fun e st H => (e = .normal ∧ ∃ (v294 : nsggen_Tape), ∃ (v295 : api_Move), o296 = (v294, v295) ∧ st = [(0, (.ptr 0 0)), (2, (vb a2)), (7, (.own 1 (List.length v112))), (8, (i64 v113)), (9, (.ptr 2 0))] ∧ H = [.cells (row_nsggen_Tape v294), bf 20 59 row_api_Move v112 false, .cells (row_api_Move v295)])) ?_ ?_
          · clear hF
            have hF := h297
            refine AWP.seq ?_
            obtain ⟨b298, h299, hF⟩ := bindb hF
            replace h299 := someb h299
            obtain ⟨v302, h303, hF⟩ := bindb hF
            refine AWP.to [(0, (.ptr 0 0)), (2, (vb a2)), (7, (.own 1 (List.length v112))), (8, (i64 v113)), (9, (.ptr 2 0)), (25, (vb v302.1))] [.cells (row_nsggen_Tape v302.2), bf 20 59 row_api_Move v112 false, .cells (row_api_Move r281.1)] ?_ ?_
            · cases b298 with
              | false =>
                have h304 := someb (ifF h303 rfl)
                subst h304
                exact AWP.rgT [(1, .bool h299)]
              | true =>
                have h305 := ifT h303 rfl
                obtain ⟨r300, h301, h305⟩ := bindb h305
                replace h305 := someb h305
                subst h305
                exact AWP.rgT [(1, .bool h299), (3, .call Tryd.func18 [] (K_nsggen_Tape_Next r281.2 (6:Int) r300 h301))]
            refine AWP.cif hF (fun h308 hF => ?_) (fun h308 hF => ?_)
            · obtain ⟨r306, h307, hF⟩ := bindb hF
              refine AWP.rg [(3, .call Tryd.func24 [] (K_nsggen_Tape_SpoilBox v302.2 r281.1.To r306 h307))] [(0, (.ptr 0 0)), (2, (vb a2)), (7, (.own 1 (List.length v112))), (8, (i64 v113)), (9, (.ptr 2 0))] [.cells (row_nsggen_Tape r306.2), bf 20 59 row_api_Move v112 false, .cells (row_api_Move ({ r281.1 with To := r306.1 } : api_Move))] ?_
              refine LeQ.start ?_
              refine LeQ.pk [0, 2, 7, 8, 9] 3 ?_
              exact ⟨rfl, r306.2, ({ r281.1 with To := r306.1 } : api_Move), (someb hF).symm, by kernel_rfl, by kernel_rfl⟩
            · refine AWP.skip ?_
              refine LeQ.start ?_
              refine LeQ.pk [0, 2, 7, 8, 9] 3 ?_
              exact ⟨rfl, v302.2, r281.1, (someb hF).symm, by kernel_rfl, by kernel_rfl⟩
          · rintro _ _ _ ⟨rfl, v294, v295, rfl, rfl, rfl⟩
            obtain ⟨o320, h321, hF⟩ := bindb hF
            refine AWP.seq ?_
            refine AWP.mid (fun e st H => (e = .normal ∧ ∃ (v318 : nsggen_Tape), ∃ (v319 : api_Move), o320 = (v318, v319) ∧ st = [(0, (.ptr 0 0)), (2, (vb a2)), (7, (.own 1 (List.length v112))), (8, (i64 v113)), (9, (.ptr 2 0))] ∧ H = [.cells (row_nsggen_Tape v318), bf 20 59 row_api_Move v112 false, .cells (row_api_Move v319)])) ?_ ?_
            · clear hF
              have hF := h321
              refine AWP.seq ?_
              obtain ⟨b322, h323, hF⟩ := bindb hF
              replace h323 := someb h323
              obtain ⟨v326, h327, hF⟩ := bindb hF
              refine AWP.to [(0, (.ptr 0 0)), (2, (vb a2)), (7, (.own 1 (List.length v112))), (8, (i64 v113)), (9, (.ptr 2 0)), (36, (vb v326.1))] [.cells (row_nsggen_Tape v326.2), bf 20 59 row_api_Move v112 false, .cells (row_api_Move v295)] ?_ ?_
              · cases b322 with
                | false =>
                  have h328 := someb (ifF h327 rfl)
                  subst h328
                  exact AWP.rgT [(1, .bool h323)]
                | true =>
                  have h329 := ifT h327 rfl
                  obtain ⟨r324, h325, h329⟩ := bindb h329
                  replace h329 := someb h329
                  subst h329
                  exact AWP.rgT [(1, .bool h323), (3, .call Tryd.func18 [] (K_nsggen_Tape_Next v294 (6:Int) r324 h325))]
              refine AWP.cif hF (fun h330 hF => ?_) (fun h330 hF => ?_)
              · refine AWP.rg [] [(0, (.ptr 0 0)), (2, (vb a2)), (7, (.own 1 (List.length v112))), (8, (i64 v113)), (9, (.ptr 2 0))] [.cells (row_nsggen_Tape v326.2), bf 20 59 row_api_Move v112 false, .cells (row_api_Move ({ ({ v295 with From := v295.To } : api_Move) with To := v295.From } : api_Move))] ?_
                refine LeQ.start ?_
                refine LeQ.pk [0, 2, 7, 8, 9] 3 ?_
                exact ⟨rfl, v326.2, ({ ({ v295 with From := v295.To } : api_Move) with To := v295.From } : api_Move), (someb hF).symm, by kernel_rfl, by kernel_rfl⟩
              · refine AWP.skip ?_
                refine LeQ.start ?_
                refine LeQ.pk [0, 2, 7, 8, 9] 3 ?_
                exact ⟨rfl, v326.2, v295, (someb hF).symm, by kernel_rfl, by kernel_rfl⟩
            · rintro _ _ _ ⟨rfl, v318, v319, rfl, rfl, rfl⟩
              obtain ⟨h331, hF⟩ := chkb hF
              refine AWP.rg [(3, .app row_api_Move (fun _ => by kernel_rfl) h331)] [(0, (.ptr 0 0)), (2, (vb a2)), (7, (.own 1 (List.length (v112 ++ [v319])))), (8, (i64 v113))] [.cells (row_nsggen_Tape v318), bf 20 59 row_api_Move (v112 ++ [v319]) false, .cells (row_api_Move v319)] ?_
              refine LeQ.start ?_
              refine LeQ.pk [0, 2, 7, 8] 2 ?_
              exact ⟨rfl, v318, (v112 ++ [v319]), (someb hF).symm, by kernel_rfl, by kernel_rfl⟩
        · rintro _ _ _ ⟨rfl, v277, v278, rfl, rfl, rfl⟩
          refine AWP.rg0 [] [(0, (.ptr 0 0)), (2, (vb a2)), (7, (.own 1 (List.length v278))), (8, (i64 (IntKind.wrap .i64 (v113 - (1:Int)))))] ?_
          refine LeQ.start ?_
          refine LeQ.pk [0, 2, 7, 8] 2 ?_
          exact ⟨n225, Nat.lt_succ_self _, v277, v278, (IntKind.wrap .i64 (v113 - (1:Int))), hF, by kernel_rfl, by kernel_rfl⟩
      · refine AWP.exit ?_
        refine LeQ.start ?_
        refine LeQ.pk [7] 2 ?_
        exact ⟨rfl, v111, v112, (someb hF).symm, by kernel_rfl, by kernel_rfl⟩
  · rintro _ _ _ ⟨rfl, v221, v222, rfl, rfl, rfl⟩
    refine AWP.seq ?_
    refine AWP.rg0 [] [(6, (.own 1 (List.length v222)))] ?_
    refine AWP.ret ?_
    have hr := someb hF
    subst hr
    exact (FnQ.f1 1 (.inr rfl) (.inl (Wk.ownT (i := 1) (s := 20) (t := 59) (l := v222) (sh := false) (row := row_api_Move) (by kernel_rfl) (.inl rfl))))
def R_nsgref3_Valid (r : Bool) : PV → List Blk → Prop := fun p K => p = (vb r) ∧ K = []
abbrev Q_nsgref3_Valid (r : Bool) : Exit → St → List Blk → Prop := FnQ Tryd.prog Tryd.f56.results 0 (R_nsgref3_Valid r)
theorem K_nsgref3_Valid (a0 : (Arr5 api_Range)) (r : Bool) (hF : F_nsgref3_Valid a0 = some r) : ACall Tryd.prog glob 56 [(pv_a5_api_Range a0)] [] (R_nsgref3_Valid r) := by
  refine ACall.body Tryd.func56 rfl (by kernel_rfl) ?_
  unfold F_nsgref3_Valid at hF
  refine AWP.seq ?_
  refine AWP.rg [] [(1, (.ptr 0 0))] [.cells (row_a5_api_Range a0)] ?_
  refine AWP.seq ?_
  refine AWP.seq ?_
  refine AWP.rg0 [] [(1, (.ptr 0 0)), (3, (i64 (0:Int)))] ?_
  obtain ⟨o15, h16, hF⟩ := bindb hF
  refine AWP.mid (fun e st H => (e = .normal ∧ o15 = (.inl ()) ∧ st = [] ∧ H = [.cells (row_a5_api_Range a0)]) ∨ (e = .ret ∧ ∃ (r : Bool), o15 = (.inr r) ∧ Q_nsgref3_Valid r e st H)) ?_ ?_
  · clear hF
    refine AWP.kp [1, 3] 1 ?_
    refine AWP.bround (fun n st H => ∃ (v1 : Int), F_nsgref3_Valid_L1 a0 n v1 = some o15 ∧ st = [(1, (.ptr 0 0)), (3, (i64 v1))] ∧ H = [.cells (row_a5_api_Range a0)]) fuel ⟨(0:Int), h16, by kernel_rfl, by kernel_rfl⟩ ?_
    rintro n17 st H ⟨v1, hF, rfl, rfl⟩
    cases n17 with
    | zero => exact noneb hF
    | succ n17 =>
      rw [F_nsgref3_Valid_L1] at hF
      refine AWP.seq ?_
      refine AWP.seq ?_
      refine AWP.rg0 [] [(1, (.ptr 0 0)), (3, (i64 v1)), (5, (vb (decide (v1 < (5:Int)))))] ?_
      refine AWP.cif hF (fun h30 hF => ?_) (fun h30 hF => ?_)
      · refine AWP.skip ?_
        refine AWP.seq ?_
        refine AWP.block ?_
        refine AWP.seq ?_
        obtain ⟨h18, hF⟩ := chkb hF
        obtain ⟨h19, hF⟩ := chkb hF
        obtain ⟨b20, h21, hF⟩ := bindb hF
        replace h21 := someb h21
        obtain ⟨v25, h26, hF⟩ := bindb hF
        refine AWP.to [(1, (.ptr 0 0)), (3, (i64 v1)), (25, (vb v25))] [.cells (row_a5_api_Range a0)] ?_ ?_
        · cases b20 with
          | false =>
            have h27 := ifF h26 rfl
            obtain ⟨h22, h27⟩ := chkb h27
            obtain ⟨r23, h24, h27⟩ := bindb h27
            replace h27 := someb h27
            subst h27
            exact AWP.drT [(1, .ixd h18), (3, .ldA row_api_Range (Arr5.get a0) 0 2 0 h18), (5, .ixd h19), (7, .ldA row_api_Range (Arr5.get a0) 0 2 1 h19), (9, .bool h21), (11, .ixd h22), (13, .ldA row_api_Range (Arr5.get a0) 0 2 1 h22), (15, .call Tryd.func30 [] (K_nsgref3_Top v1 r23 h24))] 18 [] [] []
          | true =>
            have h28 := someb (ifT h26 rfl)
            subst h28
            exact AWP.drT [(1, .ixd h18), (3, .ldA row_api_Range (Arr5.get a0) 0 2 0 h18), (5, .ixd h19), (7, .ldA row_api_Range (Arr5.get a0) 0 2 1 h19), (9, .bool h21)] 18 [] [] []
        refine AWP.cif hF (fun h29 hF => ?_) (fun h29 hF => ?_)
        · refine AWP.seq ?_
          refine AWP.rg0 [] [(2, (vb false))] ?_
          refine AWP.ret ?_
          exact LeQ.of (.inr ⟨rfl, false, (someb hF).symm, (FnQ.f0 0 (.inr rfl))⟩)
        · refine AWP.skip ?_
          refine AWP.rg0 [] [(1, (.ptr 0 0)), (3, (i64 (IntKind.wrap .i64 (v1 + (1:Int)))))] ?_
          refine LeQ.start ?_
          refine LeQ.pk [1, 3] 1 ?_
          exact ⟨n17, Nat.lt_succ_self _, (IntKind.wrap .i64 (v1 + (1:Int))), hF, by kernel_rfl, by kernel_rfl⟩
      · refine AWP.exit ?_
        refine LeQ.start ?_
        refine LeQ.pk [] 1 ?_
        exact (.inl ⟨rfl, (someb hF).symm, by kernel_rfl, by kernel_rfl⟩)
  · rintro _ _ _ (⟨rfl, rfl, rfl, rfl⟩ | ⟨rfl, r31, rfl, hq⟩)
    · refine AWP.seq ?_
      refine AWP.rg0 [] [(2, (vb true))] ?_
      refine AWP.ret ?_
      have hr := someb hF
      subst hr
      exact (FnQ.f0 0 (.inr rfl))
    · have hr := someb hF
      subst hr
      exact hq
def R_nsgref6_ValidMove (r : Bool) : PV → List Blk → Prop := fun p K => p = (vb r) ∧ K = []
abbrev Q_nsgref6_ValidMove (r : Bool) : Exit → St → List Blk → Prop := FnQ Tryd.prog Tryd.f25.results 0 (R_nsgref6_ValidMove r)
theorem K_nsgref6_ValidMove (a0 : api_Move) (r : Bool) (hF : F_nsgref6_ValidMove a0 = some r) : ACall Tryd.prog glob 25 [(pv_api_Move a0)] [] (R_nsgref6_ValidMove r) := by
  refine ACall.body Tryd.func25 rfl (by kernel_rfl) ?_
  unfold F_nsgref6_ValidMove at hF
  refine AWP.seq ?_
  refine AWP.rg [] [(1, (.ptr 0 0))] [.cells (row_api_Move a0)] ?_
  refine AWP.seq ?_
  refine AWP.seq ?_
  refine AWP.rg0 [] [(1, (.ptr 0 0)), (3, (i64 (0:Int)))] ?_
  obtain ⟨o8, h9, hF⟩ := bindb hF
  refine AWP.mid (fun e st H => (e = .normal ∧ o8 = (.inl ()) ∧ st = [(1, (.ptr 0 0))] ∧ H = [.cells (row_api_Move a0)]) ∨ (e = .ret ∧ ∃ (r : Bool), o8 = (.inr r) ∧ Q_nsgref6_ValidMove r e st H)) ?_ ?_
  · clear hF
    refine AWP.kp [1, 3] 1 ?_
    refine AWP.bround (fun n st H => ∃ (v1 : Int), F_nsgref6_ValidMove_L1 a0 n v1 = some o8 ∧ st = [(1, (.ptr 0 0)), (3, (i64 v1))] ∧ H = [.cells (row_api_Move a0)]) fuel ⟨(0:Int), h9, by kernel_rfl, by kernel_rfl⟩ ?_
    rintro n10 st H ⟨v1, hF, rfl, rfl⟩
    cases n10 with
    | zero => exact noneb hF
    | succ n10 =>
      rw [F_nsgref6_ValidMove_L1] at hF
      refine AWP.seq ?_
      refine AWP.seq ?_
      refine AWP.rg0 [] [(1, (.ptr 0 0)), (3, (i64 v1)), (5, (vb (decide (v1 < (5:Int)))))] ?_
      refine AWP.cif hF (fun h16 hF => ?_) (fun h16 hF => ?_)
      · refine AWP.skip ?_
        refine AWP.seq ?_
        refine AWP.block ?_
        refine AWP.seq ?_
        obtain ⟨h11, hF⟩ := chkb hF
        obtain ⟨h12, hF⟩ := chkb hF
        obtain ⟨h13, hF⟩ := chkb hF
        obtain ⟨h14, hF⟩ := chkb hF
        refine AWP.dr [(2, .ixd h11), (4, .ldA row_api_Range (Arr5.get a0.From) 0 2 1 h11), (7, .ixd h12), (9, .ldA row_api_Range (Arr5.get a0.From) 0 2 0 h12), (13, .ixd h13), (15, .ldA row_api_Range (Arr5.get a0.To) 10 2 1 h13), (18, .ixd h14), (20, .ldA row_api_Range (Arr5.get a0.To) 10 2 0 h14)] 23 [] [] [] [(1, (.ptr 0 0)), (3, (i64 v1)), (30, (vb ((IntKind.wrap .u32 ((Arr5.get a0.From v1).Hi - (Arr5.get a0.From v1).Lo)) != (IntKind.wrap .u32 ((Arr5.get a0.To v1).Hi - (Arr5.get a0.To v1).Lo)))))] [.cells (row_api_Move a0)] ?_
        refine AWP.cif hF (fun h15 hF => ?_) (fun h15 hF => ?_)
        · refine AWP.seq ?_
          refine AWP.rg0 [] [(2, (vb false))] ?_
          refine AWP.ret ?_
          exact LeQ.of (.inr ⟨rfl, false, (someb hF).symm, (FnQ.f0 0 (.inr rfl))⟩)
        · refine AWP.skip ?_
          refine AWP.rg0 [] [(1, (.ptr 0 0)), (3, (i64 (IntKind.wrap .i64 (v1 + (1:Int)))))] ?_
          refine LeQ.start ?_
          refine LeQ.pk [1, 3] 1 ?_
          exact ⟨n10, Nat.lt_succ_self _, (IntKind.wrap .i64 (v1 + (1:Int))), hF, by kernel_rfl, by kernel_rfl⟩
      · refine AWP.exit ?_
        refine LeQ.start ?_
        refine LeQ.pk [1] 1 ?_
        exact (.inl ⟨rfl, (someb hF).symm, by kernel_rfl, by kernel_rfl⟩)
  · rintro _ _ _ (⟨rfl, rfl, rfl, rfl⟩ | ⟨rfl, r27, rfl, hq⟩)
    · refine AWP.seq ?_
      obtain ⟨r17, h18, hF⟩ := bindb hF
      obtain ⟨b19, h20, hF⟩ := bindb hF
      replace h20 := someb h20
      obtain ⟨v23, h24, hF⟩ := bindb hF
      refine AWP.to [(2, (vb v23))] [.cells (row_api_Move a0)] ?_ ?_
      · cases b19 with
        | false =>
          have h25 := someb (ifF h24 rfl)
          subst h25
          exact AWP.rgT [(2, .call Tryd.func56 [] (K_nsgref3_Valid a0.From r17 h18)), (3, .bool h20)]
        | true =>
          have h26 := ifT h24 rfl
          obtain ⟨r21, h22, h26⟩ := bindb h26
          replace h26 := someb h26
          subst h26
          exact AWP.rgT [(2, .call Tryd.func56 [] (K_nsgref3_Valid a0.From r17 h18)), (3, .bool h20), (6, .call Tryd.func56 [] (K_nsgref3_Valid a0.To r21 h22))]
      refine AWP.ret ?_
      have hr := someb hF
      subst hr
      exact (FnQ.f0 0 (.inr rfl))
    · have hr := someb hF
      subst hr
      exact hq
def R_nsgref3_Intersect (r : ((Arr5 api_Range) × Bool)) : PV → List Blk → Prop := fun p K => p = (.tup [(pv_a5_api_Range r.1), (vb r.2)]) ∧ K = []
abbrev Q_nsgref3_Intersect (r : ((Arr5 api_Range) × Bool)) : Exit → St → List Blk → Prop := FnQ Tryd.prog Tryd.f26.results 0 (R_nsgref3_Intersect r)
theorem K_nsgref3_Intersect (a0 : (Arr5 api_Range)) (a1 : (Arr5 api_Range)) (r : ((Arr5 api_Range) × Bool)) (hF : F_nsgref3_Intersect a0 a1 = some r) : ACall Tryd.prog glob 26 [(pv_a5_api_Range a0), (pv_a5_api_Range a1)] [] (R_nsgref3_Intersect r) := by
  refine ACall.body Tryd.func26 rfl (by kernel_rfl) ?_
  unfold F_nsgref3_Intersect at hF
  refine AWP.seq ?_
  refine AWP.rg [] [(2, (.ptr 0 0)), (3, (.ptr 1 0)), (4, (.ptr 2 0))] [.cells (row_a5_api_Range a0), .cells (row_a5_api_Range a1), .cells (row_a5_api_Range z_a5_api_Range)] ?_
  refine AWP.seq ?_
  refine AWP.rg [] [(2, (.ptr 0 0)), (3, (.ptr 1 0)), (4, (.ptr 2 0)), (6, (.ptr 3 0))] [.cells (row_a5_api_Range a0), .cells (row_a5_api_Range a1), .cells (row_a5_api_Range z_a5_api_Range), .cells (row_a5_api_Range z_a5_api_Range)] ?_
  refine AWP.seq ?_
  refine AWP.seq ?_
  refine AWP.rg0 [] [(2, (.ptr 0 0)), (3, (.ptr 1 0)), (4, (.ptr 2 0)), (6, (.ptr 3 0)), (7, (i64 (0:Int)))] ?_
  obtain ⟨v24, h25, hF⟩ := bindb hF
  refine AWP.mid (fun e st H => e = .normal ∧ st = [(2, (.ptr 0 0)), (3, (.ptr 1 0)), (4, (.ptr 2 0)), (6, (.ptr 3 0))] ∧ H = [.cells (row_a5_api_Range a0), .cells (row_a5_api_Range a1), .cells (row_a5_api_Range z_a5_api_Range), .cells (row_a5_api_Range v24)]) ?_ ?_
  · clear hF
    refine AWP.kp [2, 3, 4, 6, 7] 4 ?_
    refine AWP.bround (fun n st H => ∃ (v12 : (Arr5 api_Range)), ∃ (v13 : Int), F_nsgref3_Intersect_L1 a0 a1 n v12 v13 = some v24 ∧ st = [(2, (.ptr 0 0)), (3, (.ptr 1 0)), (4, (.ptr 2 0)), (6, (.ptr 3 0)), (7, (i64 v13))] ∧ H = [.cells (row_a5_api_Range a0), .cells (row_a5_api_Range a1), .cells (row_a5_api_Range z_a5_api_Range), .cells (row_a5_api_Range v12)]) fuel ⟨z_a5_api_Range, (0:Int), h25, by kernel_rfl, by kernel_rfl⟩ ?_
    rintro n26 st H ⟨v12, v13, hF, rfl, rfl⟩
    cases n26 with
    | zero => exact noneb hF
    | succ n26 =>
      rw [F_nsgref3_Intersect_L1] at hF
      refine AWP.seq ?_
      refine AWP.seq ?_
      refine AWP.rg0 [] [(2, (.ptr 0 0)), (3, (.ptr 1 0)), (4, (.ptr 2 0)), (6, (.ptr 3 0)), (7, (i64 v13)), (9, (vb (decide (v13 < (5:Int)))))] ?_
      refine AWP.cif hF (fun h36 hF => ?_) (fun h36 hF => ?_)
      · refine AWP.skip ?_
        refine AWP.seq ?_
        refine AWP.block ?_
        obtain ⟨h27, hF⟩ := chkb hF
        obtain ⟨h28, hF⟩ := chkb hF
        obtain ⟨h29, hF⟩ := chkb hF
        obtain ⟨h30, hF⟩ := chkb hF
        obtain ⟨h31, hF⟩ := chkb hF
        refine AWP.dr [(2, .ixd h27), (4, .ldA row_api_Range (Arr5.get a0) 0 2 0 h27), (6, .ixd h28), (8, .ldA row_api_Range (Arr5.get a1) 0 2 0 h28), (11, .ixd h29), (13, .ldA row_api_Range (Arr5.get a0) 0 2 1 h29), (15, .ixd h30), (17, .ldA row_api_Range (Arr5.get a1) 0 2 1 h30), (20, .ixd h31), (21, .stA (fun q34 => row_a5_api_Range (Arr5.set v12 q34 (api_Range.mk (iMax ((Arr5.get a0 v13).Lo) ((Arr5.get a1 v13).Lo)) (iMin ((Arr5.get a0 v13).Hi) ((Arr5.get a1 v13).Hi))))) 0 2 0 h31)] 20 [] [] [] [(2, (.ptr 0 0)), (3, (.ptr 1 0)), (4, (.ptr 2 0)), (6, (.ptr 3 0)), (7, (i64 v13))] [.cells (row_a5_api_Range a0), .cells (row_a5_api_Range a1), .cells (row_a5_api_Range z_a5_api_Range), .cells (row_a5_api_Range (Arr5.set v12 v13 (api_Range.mk (iMax ((Arr5.get a0 v13).Lo) ((Arr5.get a1 v13).Lo)) (iMin ((Arr5.get a0 v13).Hi) ((Arr5.get a1 v13).Hi)))))] ?_
        refine AWP.rg0 [] [(2, (.ptr 0 0)), (3, (.ptr 1 0)), (4, (.ptr 2 0)), (6, (.ptr 3 0)), (7, (i64 (IntKind.wrap .i64 (v13 + (1:Int)))))] ?_
        refine LeQ.start ?_
        refine LeQ.pk [2, 3, 4, 6, 7] 4 ?_
        exact ⟨n26, Nat.lt_succ_self _, (Arr5.set v12 v13 (api_Range.mk (iMax ((Arr5.get a0 v13).Lo) ((Arr5.get a1 v13).Lo)) (iMin ((Arr5.get a0 v13).Hi) ((Arr5.get a1 v13).Hi)))), (IntKind.wrap .i64 (v13 + (1:Int))), hF, by kernel_rfl, by kernel_rfl⟩
      · refine AWP.exit ?_
        refine LeQ.start ?_
        refine LeQ.pk [2, 3, 4, 6] 4 ?_
        have hr := someb hF
        subst hr
        exact ⟨rfl, by kernel_rfl, by kernel_rfl⟩
  · rintro _ _ _ ⟨rfl, rfl, rfl⟩
    refine AWP.seq ?_
    refine AWP.seq ?_
    obtain ⟨r37, h38, hF⟩ := bindb hF
    obtain ⟨b39, h40, hF⟩ := bindb hF
    replace h40 := someb h40
    obtain ⟨v43, h44, hF⟩ := bindb hF
    obtain ⟨b45, h46, hF⟩ := bindb hF
    replace h46 := someb h46
    obtain ⟨v49, h50, hF⟩ := bindb hF
    refine AWP.to [(4, (.ptr 2 0)), (6, (.ptr 3 0)), (45, (vb v49))] [.cells (row_a5_api_Range a0), .cells (row_a5_api_Range a1), .cells (row_a5_api_Range z_a5_api_Range), .cells (row_a5_api_Range v24)] ?_ ?_
    · cases b39 with
      | false =>
        have h51 := ifF h44 rfl
        obtain ⟨r41, h42, h51⟩ := bindb h51
        replace h51 := someb h51
        subst h51
        cases b45 with
        | false =>
          have h52 := ifF h50 rfl
          obtain ⟨r47, h48, h52⟩ := bindb h52
          replace h52 := someb h52
          subst h52
          exact AWP.rgT [(1, .call Tryd.func56 [] (K_nsgref3_Valid a0 r37 h38)), (3, .bool h40), (5, .call Tryd.func56 [] (K_nsgref3_Valid a1 r41 h42)), (8, .bool h46), (10, .call Tryd.func56 [] (K_nsgref3_Valid v24 r47 h48))]
        | true =>
          have h53 := someb (ifT h50 rfl)
          subst h53
          exact AWP.rgT [(1, .call Tryd.func56 [] (K_nsgref3_Valid a0 r37 h38)), (3, .bool h40), (5, .call Tryd.func56 [] (K_nsgref3_Valid a1 r41 h42)), (8, .bool h46)]
      | true =>
        have h54 := someb (ifT h44 rfl)
        subst h54
        subst h46
        have h55 := someb (ifT h50 rfl)
        subst h55
        exact AWP.rgT [(1, .call Tryd.func56 [] (K_nsgref3_Valid a0 r37 h38)), (3, .bool h40)]
    refine AWP.cif hF (fun h56 hF => ?_) (fun h56 hF => ?_)
    · refine AWP.seq ?_
      refine AWP.rg [] [(4, (.ptr 2 0)), (5, (vb false))] [.cells (row_a5_api_Range a0), .cells (row_a5_api_Range a1), .cells (row_a5_api_Range (Arr5.mk z_api_Range z_api_Range z_api_Range z_api_Range z_api_Range)), .cells (row_a5_api_Range v24)] ?_
      refine AWP.ret ?_
      have hr := someb hF
      subst hr
      exact (FnQ.f0 0 (.inr rfl))
    · refine AWP.skip ?_
      refine AWP.seq ?_
      refine AWP.rg [] [(4, (.ptr 2 0)), (5, (vb true))] [.cells (row_a5_api_Range a0), .cells (row_a5_api_Range a1), .cells (row_a5_api_Range v24), .cells (row_a5_api_Range v24)] ?_
      refine AWP.ret ?_
      have hr := someb hF
      subst hr
      exact (FnQ.f0 0 (.inr rfl))
def R_nsgref6_Valid (r : Bool) : PV → List Blk → Prop := fun p K => p = (vb r) ∧ K = []
abbrev Q_nsgref6_Valid (r : Bool) : Exit → St → List Blk → Prop := FnQ Tryd.prog Tryd.f8.results 0 (R_nsgref6_Valid r)
theorem K_nsgref6_Valid (a0 : (List api_Move)) (r : Bool) (hF : F_nsgref6_Valid a0 = some r) : ACall Tryd.prog glob 8 [(slc 20 row_api_Move a0)] [] (R_nsgref6_Valid r) := by
  refine ACall.body Tryd.func8 rfl (by kernel_rfl) ?_
  unfold F_nsgref6_Valid at hF
  refine AWP.seq ?_
  refine AWP.rg0 [] [(0, (slc 20 row_api_Move a0))] ?_
  refine AWP.seq ?_
  refine AWP.seq ?_
  refine AWP.rg0 [(1, .len row_api_Move a0)] [(0, (slc 20 row_api_Move a0)), (9, (vb (decide ((List.length a0 : Int) > (64:Int)))))] ?_
  refine AWP.cif hF (fun h60 hF => ?_) (fun h60 hF => ?_)
  · refine AWP.seq ?_
    refine AWP.rg0 [] [(2, (vb false))] ?_
    refine AWP.ret ?_
    have hr := someb hF
    subst hr
    exact (FnQ.f0 0 (.inr rfl))
  · refine AWP.skip ?_
    refine AWP.seq ?_
    refine AWP.seq ?_
    refine AWP.rg0 [] [(0, (slc 20 row_api_Move a0)), (3, (i64 (0:Int)))] ?_
    obtain ⟨o29, h30, hF⟩ := bindb hF
    refine AWP.mid (fun e st H => (e = .normal ∧ o29 = (.inl ()) ∧ st = [] ∧ H = []) ∨ (e = .ret ∧ ∃ (r : Bool), o29 = (.inr r) ∧ Q_nsgref6_Valid r e st H)) ?_ ?_
    · clear hF
      refine AWP.kp [0, 3] 0 ?_
      refine AWP.bround (fun n st H => ∃ (v1 : Int), F_nsgref6_Valid_L1 a0 n v1 = some o29 ∧ st = [(0, (slc 20 row_api_Move a0)), (3, (i64 v1))] ∧ H = []) fuel ⟨(0:Int), h30, by kernel_rfl, by kernel_rfl⟩ ?_
      rintro n31 st H ⟨v1, hF, rfl, rfl⟩
      cases n31 with
      | zero => exact noneb hF
      | succ n31 =>
        rw [F_nsgref6_Valid_L1] at hF
        refine AWP.seq ?_
        refine AWP.seq ?_
        refine AWP.rg0 [(2, .len row_api_Move a0)] [(0, (slc 20 row_api_Move a0)), (3, (i64 v1)), (13, (vb (decide (v1 < (List.length a0 : Int)))))] ?_
        refine AWP.cif hF (fun h58 hF => ?_) (fun h58 hF => ?_)
        · refine AWP.skip ?_
          refine AWP.seq ?_
          refine AWP.block ?_
          refine AWP.seq ?_
          refine AWP.seq ?_
          obtain ⟨x32, h33, hF⟩ := bindb hF
          obtain ⟨r34, h35, hF⟩ := bindb hF
          refine AWP.rg0 [(2, .idx row_api_Move h33), (4, .call Tryd.func25 [] (K_nsgref6_ValidMove x32 r34 h35))] [(0, (slc 20 row_api_Move a0)), (3, (i64 v1)), (21, (vb (!r34)))] ?_
          refine AWP.cif hF (fun h57 hF => ?_) (fun h57 hF => ?_)
          · refine AWP.seq ?_
            refine AWP.rg0 [] [(2, (vb false))] ?_
            refine AWP.ret ?_
            exact LeQ.of (.inr ⟨rfl, false, (someb hF).symm, (FnQ.f0 0 (.inr rfl))⟩)
          · refine AWP.skip ?_
            refine AWP.seq ?_
            refine AWP.rg0 [] [(0, (slc 20 row_api_Move a0)), (3, (i64 v1)), (4, (i64 (0:Int)))] ?_
            obtain ⟨o45, h46, hF⟩ := bindb hF
            refine AWP.mid (fun e st H => (e = .normal ∧ o45 = (.inl ()) ∧ st = [(0, (slc 20 row_api_Move a0)), (3, (i64 v1))] ∧ H = []) ∨ (e = .ret ∧ ∃ (r : Bool), o45 = (.inr r) ∧ Q_nsgref6_Valid r e st H)) ?_ ?_
            · clear hF
              refine AWP.kp [0, 3, 4] 0 ?_
              refine AWP.bround (fun n st H => ∃ (v36 : Int), F_nsgref6_Valid_L2 a0 v1 n v36 = some o45 ∧ st = [(0, (slc 20 row_api_Move a0)), (3, (i64 v1)), (4, (i64 v36))] ∧ H = []) fuel ⟨(0:Int), h46, by kernel_rfl, by kernel_rfl⟩ ?_
              rintro n47 st H ⟨v36, hF, rfl, rfl⟩
              cases n47 with
              | zero => exact noneb hF
              | succ n47 =>
                rw [F_nsgref6_Valid_L2] at hF
                refine AWP.seq ?_
                refine AWP.seq ?_
                refine AWP.rg0 [] [(0, (slc 20 row_api_Move a0)), (3, (i64 v1)), (4, (i64 v36)), (24, (vb (decide (v36 < v1))))] ?_
                refine AWP.cif hF (fun h55 hF => ?_) (fun h55 hF => ?_)
                · refine AWP.skip ?_
                  refine AWP.seq ?_
                  refine AWP.block ?_
                  refine AWP.seq ?_
                  obtain ⟨x48, h49, hF⟩ := bindb hF
                  obtain ⟨x50, h51, hF⟩ := bindb hF
                  obtain ⟨r52, h53, hF⟩ := bindb hF
                  refine AWP.dr [(2, .idx row_api_Move h49), (7, .idx row_api_Move h51), (10, .call Tryd.func26 [] (K_nsgref3_Intersect x48.From x50.From r52 h53))] 16 [] [14, 15] [] [(0, (slc 20 row_api_Move a0)), (3, (i64 v1)), (4, (i64 v36)), (6, (vb r52.2))] [.cells (row_a5_api_Range r52.1)] ?_
                  refine AWP.seq ?_
                  refine AWP.rg0 [] [(0, (slc 20 row_api_Move a0)), (3, (i64 v1)), (4, (i64 v36)), (41, (vb r52.2))] ?_
                  refine AWP.cif hF (fun h54 hF => ?_) (fun h54 hF => ?_)
                  · refine AWP.seq ?_
                    refine AWP.rg0 [] [(2, (vb false))] ?_
                    refine AWP.ret ?_
                    exact LeQ.of (.inr ⟨rfl, false, (someb hF).symm, (FnQ.f0 0 (.inr rfl))⟩)
                  · refine AWP.skip ?_
                    refine AWP.rg0 [] [(0, (slc 20 row_api_Move a0)), (3, (i64 v1)), (4, (i64 (IntKind.wrap .i64 (v36 + (1:Int)))))] ?_
                    refine LeQ.start ?_
                    refine LeQ.pk [0, 3, 4] 0 ?_
                    exact ⟨n47, Nat.lt_succ_self _, (IntKind.wrap .i64 (v36 + (1:Int))), hF, by kernel_rfl, by kernel_rfl⟩
                · refine AWP.exit ?_
                  refine LeQ.start ?_
                  refine LeQ.pk [0, 3] 0 ?_
                  exact (.inl ⟨rfl, (someb hF).symm, by kernel_rfl, by kernel_rfl⟩)
            · rintro _ _ _ (⟨rfl, rfl, rfl, rfl⟩ | ⟨rfl, r56, rfl, hq⟩)
              · refine AWP.rg0 [] [(0, (slc 20 row_api_Move a0)), (3, (i64 (IntKind.wrap .i64 (v1 + (1:Int)))))] ?_
                refine LeQ.start ?_
                refine LeQ.pk [0, 3] 0 ?_
                exact ⟨n31, Nat.lt_succ_self _, (IntKind.wrap .i64 (v1 + (1:Int))), hF, by kernel_rfl, by kernel_rfl⟩
              · exact LeQ.of (.inr ⟨rfl, r56, (someb hF).symm, hq⟩)
        · refine AWP.exit ?_
          refine LeQ.start ?_
          refine LeQ.pk [] 0 ?_
          exact (.inl ⟨rfl, (someb hF).symm, by kernel_rfl, by kernel_rfl⟩)
    · rintro _ _ _ (⟨rfl, rfl, rfl, rfl⟩ | ⟨rfl, r59, rfl, hq⟩)
      · refine AWP.seq ?_
        refine AWP.rg0 [] [(2, (vb true))] ?_
        refine AWP.ret ?_
        have hr := someb hF
        subst hr
        exact (FnQ.f0 0 (.inr rfl))
      · have hr := someb hF
        subst hr
        exact hq
def R_nsgref6_Inverse (r : (List api_Move)) : PV → List Blk → Prop := fun p K => p = (slc 20 row_api_Move r) ∧ K = []
abbrev Q_nsgref6_Inverse (r : (List api_Move)) : Exit → St → List Blk → Prop := FnQ Tryd.prog Tryd.f9.results 0 (R_nsgref6_Inverse r)
theorem K_nsgref6_Inverse (a0 : (List api_Move)) (r : (List api_Move)) (hF : F_nsgref6_Inverse a0 = some r) : ACall Tryd.prog glob 9 [(slc 20 row_api_Move a0)] [] (R_nsgref6_Inverse r) := by
  refine ACall.body Tryd.func9 rfl (by kernel_rfl) ?_
  unfold F_nsgref6_Inverse at hF
  refine AWP.seq ?_
  refine AWP.rg0 [] [(0, (slc 20 row_api_Move a0))] ?_
  refine AWP.seq ?_
  refine AWP.rg0 [] [(0, (slc 20 row_api_Move a0)), (3, nils)] ?_
  refine AWP.own (H' := [bf 20 59 row_api_Move ([] : (List api_Move)) false]) (st' := [(3, (.own 0 (List.length ([] : (List api_Move))))), (0, (slc 20 row_api_Move a0))]) 3 20 59 (by kernel_rfl) (by kernel_rfl) (by kernel_rfl) ?_
  refine AWP.pick (st' := [(0, (slc 20 row_api_Move a0)), (3, (.own 0 (List.length ([] : (List api_Move)))))]) (ks := [0, 3]) (by kernel_rfl) ?_
  refine AWP.seq ?_
  refine AWP.seq ?_
  refine AWP.rg0 [] [(0, (slc 20 row_api_Move a0)), (3, (.own 0 (List.length ([] : (List api_Move))))), (4, (i64 (0:Int)))] ?_
  obtain ⟨v16, h17, hF⟩ := bindb hF
  refine AWP.mid (fun e st H => e = .normal ∧ st = [(3, (.own 0 (List.length v16)))] ∧ H = [bf 20 59 row_api_Move v16 false]) ?_ ?_
  · clear hF
    refine AWP.kp [0, 3, 4] 1 ?_
    refine AWP.bround (fun n st H => ∃ (v8 : (List api_Move)), ∃ (v9 : Int), F_nsgref6_Inverse_L1 a0 n v8 v9 = some v16 ∧ st = [(0, (slc 20 row_api_Move a0)), (3, (.own 0 (List.length v8))), (4, (i64 v9))] ∧ H = [bf 20 59 row_api_Move v8 false]) fuel ⟨([] : (List api_Move)), (0:Int), h17, by kernel_rfl, by kernel_rfl⟩ ?_
    rintro n18 st H ⟨v8, v9, hF, rfl, rfl⟩
    cases n18 with
    | zero => exact noneb hF
    | succ n18 =>
      rw [F_nsgref6_Inverse_L1] at hF
      refine AWP.seq ?_
      refine AWP.seq ?_
      refine AWP.rg0 [(2, .len row_api_Move a0)] [(0, (slc 20 row_api_Move a0)), (3, (.own 0 (List.length v8))), (4, (i64 v9)), (8, (vb (decide (v9 < (List.length a0 : Int)))))] ?_
      refine AWP.cif hF (fun h24 hF => ?_) (fun h24 hF => ?_)
      · refine AWP.skip ?_
        refine AWP.seq ?_
        refine AWP.block ?_
        obtain ⟨x19, h20, hF⟩ := bindb hF
        obtain ⟨x21, h22, hF⟩ := bindb hF
        obtain ⟨h23, hF⟩ := chkb hF
        refine AWP.dr [(3, .idx row_api_Move h20), (8, .idx row_api_Move h22), (13, .app row_api_Move (fun _ => by kernel_rfl) h23)] 14 [] [13] [] [(0, (slc 20 row_api_Move a0)), (3, (.own 0 (List.length (v8 ++ [(api_Move.mk x19.To x21.From)])))), (4, (i64 v9))] [bf 20 59 row_api_Move (v8 ++ [(api_Move.mk x19.To x21.From)]) false] ?_
        refine AWP.rg0 [] [(0, (slc 20 row_api_Move a0)), (3, (.own 0 (List.length (v8 ++ [(api_Move.mk x19.To x21.From)])))), (4, (i64 (IntKind.wrap .i64 (v9 + (1:Int)))))] ?_
        refine LeQ.start ?_
        refine LeQ.pk [0, 3, 4] 1 ?_
        exact ⟨n18, Nat.lt_succ_self _, (v8 ++ [(api_Move.mk x19.To x21.From)]), (IntKind.wrap .i64 (v9 + (1:Int))), hF, by kernel_rfl, by kernel_rfl⟩
      · refine AWP.exit ?_
        refine LeQ.start ?_
        refine LeQ.pk [3] 1 ?_
        have hr := someb hF
        subst hr
        exact ⟨rfl, by kernel_rfl, by kernel_rfl⟩
  · rintro _ _ _ ⟨rfl, rfl, rfl⟩
    refine AWP.seq ?_
    refine AWP.rg0 [] [(2, (.own 0 (List.length v16)))] ?_
    refine AWP.ret ?_
    have hr := someb hF
    subst hr
    exact (FnQ.f1 0 (.inr rfl) (.inl (Wk.ownT (i := 0) (s := 20) (t := 59) (l := v16) (sh := false) (row := row_api_Move) (by kernel_rfl) (.inl rfl))))
def R_nsglaw6_ends (r : (List (Arr5 api_Range))) : PV → List Blk → Prop := fun p K => p = (slc 10 row_a5_api_Range r) ∧ K = []
abbrev Q_nsglaw6_ends (r : (List (Arr5 api_Range))) : Exit → St → List Blk → Prop := FnQ Tryd.prog Tryd.f12.results 0 (R_nsglaw6_ends r)
theorem K_nsglaw6_ends (a0 : (List api_Move)) (r : (List (Arr5 api_Range))) (hF : F_nsglaw6_ends a0 = some r) : ACall Tryd.prog glob 12 [(slc 20 row_api_Move a0)] [] (R_nsglaw6_ends r) := by
  refine ACall.body Tryd.func12 rfl (by kernel_rfl) ?_
  unfold F_nsglaw6_ends at hF
  refine AWP.seq ?_
  refine AWP.rg0 [] [(0, (slc 20 row_api_Move a0))] ?_
  refine AWP.seq ?_
  refine AWP.rg0 [] [(0, (slc 20 row_api_Move a0)), (3, nils)] ?_
  refine AWP.own (H' := [bf 10 50 row_a5_api_Range ([] : (List (Arr5 api_Range))) false]) (st' := [(3, (.own 0 (List.length ([] : (List (Arr5 api_Range)))))), (0, (slc 20 row_api_Move a0))]) 3 10 50 (by kernel_rfl) (by kernel_rfl) (by kernel_rfl) ?_
  refine AWP.pick (st' := [(0, (slc 20 row_api_Move a0)), (3, (.own 0 (List.length ([] : (List (Arr5 api_Range))))))]) (ks := [0, 3]) (by kernel_rfl) ?_
  refine AWP.seq ?_
  refine AWP.seq ?_
  refine AWP.rg0 [] [(0, (slc 20 row_api_Move a0)), (3, (.own 0 (List.length ([] : (List (Arr5 api_Range)))))), (4, (i64 (0:Int)))] ?_
  obtain ⟨v16, h17, hF⟩ := bindb hF
  refine AWP.mid (fun e st H => e = .normal ∧ st = [(3, (.own 0 (List.length v16)))] ∧ H = [bf 10 50 row_a5_api_Range v16 false]) ?_ ?_
  · clear hF
    refine AWP.kp [0, 3, 4] 1 ?_
    refine AWP.bround (fun n st H => ∃ (v8 : (List (Arr5 api_Range))), ∃ (v9 : Int), F_nsglaw6_ends_L1 a0 n v8 v9 = some v16 ∧ st = [(0, (slc 20 row_api_Move a0)), (3, (.own 0 (List.length v8))), (4, (i64 v9))] ∧ H = [bf 10 50 row_a5_api_Range v8 false]) fuel ⟨([] : (List (Arr5 api_Range))), (0:Int), h17, by kernel_rfl, by kernel_rfl⟩ ?_
    rintro n18 st H ⟨v8, v9, hF, rfl, rfl⟩
    cases n18 with
    | zero => exact noneb hF
    | succ n18 =>
      rw [F_nsglaw6_ends_L1] at hF
      refine AWP.seq ?_
      refine AWP.seq ?_
      refine AWP.rg0 [(2, .len row_api_Move a0)] [(0, (slc 20 row_api_Move a0)), (3, (.own 0 (List.length v8))), (4, (i64 v9)), (8, (vb (decide (v9 < (List.length a0 : Int)))))] ?_
      refine AWP.cif hF (fun h24 hF => ?_) (fun h24 hF => ?_)
      · refine AWP.skip ?_
        refine AWP.seq ?_
        refine AWP.block ?_
        obtain ⟨x19, h20, hF⟩ := bindb hF
        obtain ⟨x21, h22, hF⟩ := bindb hF
        obtain ⟨h23, hF⟩ := chkb hF
        refine AWP.dr [(3, .idx row_api_Move h20), (8, .idx row_api_Move h22), (12, .app row_a5_api_Range (fun _ => by kernel_rfl) h23)] 13 [] [12] [] [(0, (slc 20 row_api_Move a0)), (3, (.own 0 (List.length (v8 ++ [x19.From, x21.To])))), (4, (i64 v9))] [bf 10 50 row_a5_api_Range (v8 ++ [x19.From, x21.To]) false] ?_
        refine AWP.rg0 [] [(0, (slc 20 row_api_Move a0)), (3, (.own 0 (List.length (v8 ++ [x19.From, x21.To])))), (4, (i64 (IntKind.wrap .i64 (v9 + (1:Int)))))] ?_
        refine LeQ.start ?_
        refine LeQ.pk [0, 3, 4] 1 ?_
        exact ⟨n18, Nat.lt_succ_self _, (v8 ++ [x19.From, x21.To]), (IntKind.wrap .i64 (v9 + (1:Int))), hF, by kernel_rfl, by kernel_rfl⟩
      · refine AWP.exit ?_
        refine LeQ.start ?_
        refine LeQ.pk [3] 1 ?_
        have hr := someb hF
        subst hr
        exact ⟨rfl, by kernel_rfl, by kernel_rfl⟩
  · rintro _ _ _ ⟨rfl, rfl, rfl⟩
    refine AWP.seq ?_
    refine AWP.rg0 [] [(2, (.own 0 (List.length v16)))] ?_
    refine AWP.ret ?_
    have hr := someb hF
    subst hr
    exact (FnQ.f1 0 (.inr rfl) (.inl (Wk.ownT (i := 0) (s := 10) (t := 50) (l := v16) (sh := false) (row := row_a5_api_Range) (by kernel_rfl) (.inl rfl))))
def R_nsggen_Tape_Addr (r : (Int × nsggen_Tape)) : PV → List Blk → Prop := fun p K => p = (u32 r.1) ∧ K = [.cells (row_nsggen_Tape r.2)]
abbrev Q_nsggen_Tape_Addr (r : (Int × nsggen_Tape)) : Exit → St → List Blk → Prop := FnQ Tryd.prog Tryd.f58.results 1 (R_nsggen_Tape_Addr r)
theorem K_nsggen_Tape_Addr (a0 : nsggen_Tape) (r : (Int × nsggen_Tape)) (hF : F_nsggen_Tape_Addr a0 = some r) : ACall Tryd.prog glob 58 [(.ptr 0 0)] [.cells (row_nsggen_Tape a0)] (R_nsggen_Tape_Addr r) := by
  refine ACall.body Tryd.func58 rfl (by kernel_rfl) ?_
  unfold F_nsggen_Tape_Addr at hF
  refine AWP.seq ?_
  refine AWP.rg0 [] [(0, (.ptr 0 0))] ?_
  refine AWP.seq ?_
  refine AWP.seq ?_
  obtain ⟨r1, h2, hF⟩ := bindb hF
  refine AWP.rg [(1, .call Tryd.func18 [] (K_nsggen_Tape_Next a0 (5:Int) r1 h2))] [(0, (.ptr 0 0)), (8, (vb (r1.1 == (4:Int))))] [.cells (row_nsggen_Tape r1.2)] ?_
  refine AWP.cif hF (fun h17 hF => ?_) (fun h17 hF => ?_)
  · refine AWP.seq ?_
    obtain ⟨r3, h4, hF⟩ := bindb hF
    obtain ⟨x5, h6, hF⟩ := bindb hF
    refine AWP.rg [(2, .call Tryd.func18 [] (K_nsggen_Tape_Next r1.2 (6:Int) r3 h4)), (3, .idx row_u32 h6)] [(2, (u32 x5))] [.cells (row_nsggen_Tape r3.2)] ?_
    refine AWP.ret ?_
    have hr := someb hF
    subst hr
    exact (FnQ.f0 1 (.inr rfl))
  · refine AWP.skip ?_
    refine AWP.seq ?_
    obtain ⟨r7, h8, hF⟩ := bindb hF
    obtain ⟨r9, h10, hF⟩ := bindb hF
    refine AWP.rg [(1, .call Tryd.func18 [] (K_nsggen_Tape_Next r1.2 (6:Int) r7 h8)), (2, .call Tryd.func55 [] (K_nsggen_Subnet r7.1 r9 h10))] [(0, (.ptr 0 0)), (3, (.ptr 1 0))] [.cells (row_nsggen_Tape r7.2), .cells (row_api_Prefix r9)] ?_
    refine AWP.seq ?_
    obtain ⟨r11, h12, hF⟩ := bindb hF
    refine AWP.rg [(1, .call Tryd.func54 [] (K_nsgref1_Of r9 r11 h12))] [(0, (.ptr 0 0)), (4, (.ptr 2 0))] [.cells (row_nsggen_Tape r7.2), .cells (row_api_Prefix r9), .cells (row_api_Range r11.1)] ?_
    refine AWP.seq ?_
    obtain ⟨r13, h14, hF⟩ := bindb hF
    obtain ⟨x15, h16, hF⟩ := bindb hF
    refine AWP.dr [(15, .call Tryd.func18 [] (K_nsggen_Tape_Next r7.2 (5:Int) r13 h14)), (16, .idx row_u32 h16)] 18 [] [15] [] [(2, (u32 x15))] [.cells (row_nsggen_Tape r13.2), .cells (row_api_Prefix r9), .cells (row_api_Range r11.1)] ?_
    refine AWP.ret ?_
    have hr := someb hF
    subst hr
    exact (FnQ.f0 1 (.inr rfl))
def R_nsggen_Tape_Header (r : (api_Header × nsggen_Tape)) : PV → List Blk → Prop := fun p K => p = (pv_api_Header r.1) ∧ K = [.cells (row_nsggen_Tape r.2)]
abbrev Q_nsggen_Tape_Header (r : (api_Header × nsggen_Tape)) : Exit → St → List Blk → Prop := FnQ Tryd.prog Tryd.f29.results 1 (R_nsggen_Tape_Header r)
theorem K_nsggen_Tape_Header (a0 : nsggen_Tape) (r : (api_Header × nsggen_Tape)) (hF : F_nsggen_Tape_Header a0 = some r) : ACall Tryd.prog glob 29 [(.ptr 0 0)] [.cells (row_nsggen_Tape a0)] (R_nsggen_Tape_Header r) := by
  refine ACall.body Tryd.func29 rfl (by kernel_rfl) ?_
  unfold F_nsggen_Tape_Header at hF
  refine AWP.seq ?_
  refine AWP.rg [] [(0, (.ptr 0 0)), (2, (.ptr 1 0))] [.cells (row_nsggen_Tape a0), .cells (row_api_Header z_api_Header)] ?_
  refine AWP.seq ?_
  obtain ⟨r1, h2, hF⟩ := bindb hF
  obtain ⟨r3, h4, hF⟩ := bindb hF
  obtain ⟨r5, h6, hF⟩ := bindb hF
  obtain ⟨x7, h8, hF⟩ := bindb hF
  obtain ⟨r9, h10, hF⟩ := bindb hF
  obtain ⟨r11, h12, hF⟩ := bindb hF
  refine AWP.dr [(1, .call Tryd.func58 [] (K_nsggen_Tape_Addr a0 r1 h2)), (3, .call Tryd.func58 [] (K_nsggen_Tape_Addr r1.2 r3 h4)), (6, .call Tryd.func18 [] (K_nsggen_Tape_Next r3.2 (6:Int) r5 h6)), (7, .idx row_u8 h8), (10, .call Tryd.func53 [] (K_nsggen_Tape_Number r5.2 (65535:Int) r9 h10)), (13, .call Tryd.func53 [] (K_nsggen_Tape_Number r9.2 (65535:Int) r11 h12))] 16 [] [1, 3, 6, 10, 13] [] [(2, (.ptr 1 0))] [.cells (row_nsggen_Tape r11.2), .cells (row_api_Header (api_Header.mk r1.1 r3.1 x7 (IntKind.wrap .u16 r9.1) (IntKind.wrap .u16 r11.1)))] ?_
  refine AWP.ret ?_
  have hr := someb hF
  subst hr
  exact (FnQ.f0 1 (.inr rfl))
def R_nsgref3_Header (r : api_Header) : PV → List Blk → Prop := fun p K => p = (pv_api_Header r) ∧ K = []
abbrev Q_nsgref3_Header (r : api_Header) : Exit → St → List Blk → Prop := FnQ Tryd.prog Tryd.f31.results 0 (R_nsgref3_Header r)
theorem K_nsgref3_Header (a0 : (Arr5 Int)) (r : api_Header) (hF : F_nsgref3_Header a0 = some r) : ACall Tryd.prog glob 31 [(pv_a5_u32 a0)] [] (R_nsgref3_Header r) := by
  refine ACall.body Tryd.func31 rfl (by kernel_rfl) ?_
  unfold F_nsgref3_Header at hF
  refine AWP.seq ?_
  refine AWP.rg [] [(1, (.ptr 0 0)), (2, (.ptr 1 0))] [.cells (row_a5_u32 a0), .cells (row_api_Header z_api_Header)] ?_
  refine AWP.seq ?_
  refine AWP.rg [] [(2, (.ptr 1 0))] [.cells (row_a5_u32 a0), .cells (row_api_Header (api_Header.mk a0.x0 a0.x1 (IntKind.wrap .u8 a0.x2) (IntKind.wrap .u16 a0.x3) (IntKind.wrap .u16 a0.x4)))] ?_
  refine AWP.ret ?_
  have hr := someb hF
  subst hr
  exact (FnQ.f0 0 (.inr rfl))
def R_nsggen_Tape_Near (r : (api_Header × nsggen_Tape)) : PV → List Blk → Prop := fun p K => p = (pv_api_Header r.1) ∧ K = [.cells (row_nsggen_Tape r.2)]
abbrev Q_nsggen_Tape_Near (r : (api_Header × nsggen_Tape)) : Exit → St → List Blk → Prop := FnQ Tryd.prog Tryd.f11.results 1 (R_nsggen_Tape_Near r)
theorem K_nsggen_Tape_Near (a0 : nsggen_Tape) (a1 : (List (Arr5 api_Range))) (r : (api_Header × nsggen_Tape)) (hF : F_nsggen_Tape_Near a0 a1 = some r) : ACall Tryd.prog glob 11 [(.ptr 0 0), (slc 10 row_a5_api_Range a1)] [.cells (row_nsggen_Tape a0)] (R_nsggen_Tape_Near r) := by
  refine ACall.body Tryd.func11 rfl (by kernel_rfl) ?_
  unfold F_nsggen_Tape_Near at hF
  refine AWP.seq ?_
  refine AWP.rg [] [(0, (.ptr 0 0)), (1, (slc 10 row_a5_api_Range a1)), (4, (.ptr 1 0))] [.cells (row_nsggen_Tape a0), .cells (row_api_Header z_api_Header)] ?_
  refine AWP.seq ?_
  refine AWP.seq ?_
  obtain ⟨b1, h2, hF⟩ := bindb hF
  replace h2 := someb h2
  obtain ⟨v5, h6, hF⟩ := bindb hF
  refine AWP.to [(0, (.ptr 0 0)), (1, (slc 10 row_a5_api_Range a1)), (4, (.ptr 1 0)), (15, (vb v5.1))] [.cells (row_nsggen_Tape v5.2), .cells (row_api_Header z_api_Header)] ?_ ?_
  · cases b1 with
    | false =>
      have h7 := ifF h6 rfl
      obtain ⟨r3, h4, h7⟩ := bindb h7
      replace h7 := someb h7
      subst h7
      exact AWP.rgT [(1, .len row_a5_api_Range a1), (3, .bool h2), (5, .call Tryd.func18 [] (K_nsggen_Tape_Next a0 (4:Int) r3 h4))]
    | true =>
      have h8 := someb (ifT h6 rfl)
      subst h8
      exact AWP.rgT [(1, .len row_a5_api_Range a1), (3, .bool h2)]
  refine AWP.cif hF (fun h101 hF => ?_) (fun h101 hF => ?_)
  · refine AWP.seq ?_
    obtain ⟨r9, h10, hF⟩ := bindb hF
    refine AWP.rg [(1, .call Tryd.func29 [] (K_nsggen_Tape_Header v5.2 r9 h10))] [(4, (.ptr 1 0))] [.cells (row_nsggen_Tape r9.2), .cells (row_api_Header r9.1)] ?_
    refine AWP.ret ?_
    have hr := someb hF
    subst hr
    exact (FnQ.f0 1 (.inr rfl))
  · refine AWP.skip ?_
    refine AWP.seq ?_
    obtain ⟨r11, h12, hF⟩ := bindb hF
    obtain ⟨x13, h14, hF⟩ := bindb hF
    refine AWP.rg [(3, .len row_a5_api_Range a1), (4, .call Tryd.func18 [] (K_nsggen_Tape_Next v5.2 (List.length a1 : Int) r11 h12)), (5, .idx row_a5_api_Range h14)] [(0, (.ptr 0 0)), (4, (.ptr 1 0)), (5, (.ptr 2 0))] [.cells (row_nsggen_Tape r11.2), .cells (row_api_Header z_api_Header), .cells (row_a5_api_Range x13)] ?_
    refine AWP.seq ?_
    refine AWP.rg [] [(0, (.ptr 0 0)), (4, (.ptr 1 0)), (5, (.ptr 2 0)), (6, (.ptr 3 0))] [.cells (row_nsggen_Tape r11.2), .cells (row_api_Header z_api_Header), .cells (row_a5_api_Range x13), .cells (row_a5_u32 z_a5_u32)] ?_
    refine AWP.seq ?_
    refine AWP.seq ?_
    refine AWP.rg0 [] [(0, (.ptr 0 0)), (4, (.ptr 1 0)), (5, (.ptr 2 0)), (6, (.ptr 3 0)), (7, (i64 (0:Int)))] ?_
    obtain ⟨o71, h72, hF⟩ := bindb hF
    refine AWP.mid (fun e st H => (e = .normal ∧ ∃ (v69 : nsggen_Tape), ∃ (v70 : (Arr5 Int)), o71 = (v69, v70) ∧ st = [(4, (.ptr 1 0)), (6, (.ptr 3 0))] ∧ H = [.cells (row_nsggen_Tape v69), .cells (row_api_Header z_api_Header), .cells (row_a5_api_Range x13), .cells (row_a5_u32 v70)])) ?_ ?_
    · clear hF
      refine AWP.kp [0, 4, 5, 6, 7] 4 ?_
      refine AWP.bround (fun n st H => ∃ (v41 : nsggen_Tape), ∃ (v42 : (Arr5 Int)), ∃ (v43 : Int), F_nsggen_Tape_Near_L1 x13 n v41 v42 v43 = some o71 ∧ st = [(0, (.ptr 0 0)), (4, (.ptr 1 0)), (5, (.ptr 2 0)), (6, (.ptr 3 0)), (7, (i64 v43))] ∧ H = [.cells (row_nsggen_Tape v41), .cells (row_api_Header z_api_Header), .cells (row_a5_api_Range x13), .cells (row_a5_u32 v42)]) fuel ⟨r11.2, z_a5_u32, (0:Int), h72, by kernel_rfl, by kernel_rfl⟩ ?_
      rintro n73 st H ⟨v41, v42, v43, hF, rfl, rfl⟩
      cases n73 with
      | zero => exact noneb hF
      | succ n73 =>
        rw [F_nsggen_Tape_Near_L1] at hF
        refine AWP.seq ?_
        refine AWP.seq ?_
        refine AWP.rg0 [] [(0, (.ptr 0 0)), (4, (.ptr 1 0)), (5, (.ptr 2 0)), (6, (.ptr 3 0)), (7, (i64 v43)), (26, (vb (decide (v43 < (5:Int)))))] ?_
        refine AWP.cif hF (fun h98 hF => ?_) (fun h98 hF => ?_)
        · refine AWP.skip ?_
          refine AWP.seq ?_
          refine AWP.block ?_
          refine AWP.seq ?_
          obtain ⟨h74, hF⟩ := chkb hF
          obtain ⟨h75, hF⟩ := chkb hF
          obtain ⟨h76, hF⟩ := chkb hF
          obtain ⟨h77, hF⟩ := chkb hF
          obtain ⟨h78, hF⟩ := chkb hF
          obtain ⟨h79, hF⟩ := chkb hF
          obtain ⟨h80, hF⟩ := chkb hF
          obtain ⟨r81, h82, hF⟩ := bindb hF
          obtain ⟨x83, h84, hF⟩ := bindb hF
          obtain ⟨h85, hF⟩ := chkb hF
          refine AWP.dr [(2, .ixd h74), (4, .ldA row_api_Range (Arr5.get x13) 0 2 0 h74), (6, .ixd h75), (8, .ldA row_api_Range (Arr5.get x13) 0 2 1 h75), (10, .ixd h76), (12, .ldA row_api_Range (Arr5.get x13) 0 2 0 h76), (15, .ixd h77), (17, .ldA row_api_Range (Arr5.get x13) 0 2 1 h77), (20, .ixd h78), (22, .ldA row_api_Range (Arr5.get x13) 0 2 0 h78), (24, .ixd h79), (26, .ldA row_api_Range (Arr5.get x13) 0 2 1 h79), (28, .ixd h80), (30, .ldA row_api_Range (Arr5.get x13) 0 2 0 h80), (36, .call Tryd.func18 [] (K_nsggen_Tape_Next v41 (5:Int) r81 h82)), (37, .idx row_u32 h84), (39, .ixd h85), (40, .stA (fun q88 => row_a5_u32 (Arr5.set v42 q88 x83)) 0 1 0 h85)] 39 [] [36] [] [(0, (.ptr 0 0)), (4, (.ptr 1 0)), (5, (.ptr 2 0)), (6, (.ptr 3 0)), (7, (i64 v43))] [.cells (row_nsggen_Tape r81.2), .cells (row_api_Header z_api_Header), .cells (row_a5_api_Range x13), .cells (row_a5_u32 (Arr5.set v42 v43 x83))] ?_
          obtain ⟨h90, hF⟩ := chkb hF
          obtain ⟨r91, h92, hF⟩ := bindb hF
          obtain ⟨h93, hF⟩ := chkb hF
          refine AWP.dr [(2, .ixd h90), (3, .ldA row_u32 (Arr5.get (Arr5.set v42 v43 x83)) 0 1 0 h90), (5, .call Tryd.func30 [] (K_nsgref3_Top v43 r91 h92)), (7, .ixd h93), (8, .stA (fun q96 => row_a5_u32 (Arr5.set (Arr5.set v42 v43 x83) q96 (iMin (Arr5.get (Arr5.set v42 v43 x83) v43) r91))) 0 1 0 h93)] 7 [] [] [] [(0, (.ptr 0 0)), (4, (.ptr 1 0)), (5, (.ptr 2 0)), (6, (.ptr 3 0)), (7, (i64 v43))] [.cells (row_nsggen_Tape r81.2), .cells (row_api_Header z_api_Header), .cells (row_a5_api_Range x13), .cells (row_a5_u32 (Arr5.set (Arr5.set v42 v43 x83) v43 (iMin (Arr5.get (Arr5.set v42 v43 x83) v43) r91)))] ?_
          refine AWP.rg0 [] [(0, (.ptr 0 0)), (4, (.ptr 1 0)), (5, (.ptr 2 0)), (6, (.ptr 3 0)), (7, (i64 (IntKind.wrap .i64 (v43 + (1:Int)))))] ?_
          refine LeQ.start ?_
          refine LeQ.pk [0, 4, 5, 6, 7] 4 ?_
          exact ⟨n73, Nat.lt_succ_self _, r81.2, (Arr5.set (Arr5.set v42 v43 x83) v43 (iMin (Arr5.get (Arr5.set v42 v43 x83) v43) r91)), (IntKind.wrap .i64 (v43 + (1:Int))), hF, by kernel_rfl, by kernel_rfl⟩
        · refine AWP.exit ?_
          refine LeQ.start ?_
          refine LeQ.pk [4, 6] 4 ?_
          exact ⟨rfl, v41, v42, (someb hF).symm, by kernel_rfl, by kernel_rfl⟩
    · rintro _ _ _ ⟨rfl, v69, v70, rfl, rfl, rfl⟩
      refine AWP.seq ?_
      obtain ⟨r99, h100, hF⟩ := bindb hF
      refine AWP.rg [(1, .call Tryd.func31 [] (K_nsgref3_Header v70 r99 h100))] [(4, (.ptr 1 0))] [.cells (row_nsggen_Tape v69), .cells (row_api_Header r99), .cells (row_a5_api_Range x13), .cells (row_a5_u32 v70)] ?_
      refine AWP.ret ?_
      have hr := someb hF
      subst hr
      exact (FnQ.f0 1 (.inr rfl))
def R_rewrite_turned (r : api_Move) : PV → List Blk → Prop := fun p K => p = (pv_api_Move r) ∧ K = []
abbrev Q_rewrite_turned (r : api_Move) : Exit → St → List Blk → Prop := FnQ Tryd.prog Tryd.f32.results 0 (R_rewrite_turned r)
theorem K_rewrite_turned (a0 : api_Move) (r : api_Move) (hF : F_rewrite_turned a0 = some r) : ACall Tryd.prog glob 32 [(pv_api_Move a0)] [] (R_rewrite_turned r) := by
  refine ACall.body Tryd.func32 rfl (by kernel_rfl) ?_
  unfold F_rewrite_turned at hF
  refine AWP.seq ?_
  refine AWP.rg [] [(1, (.ptr 0 0)), (2, (.ptr 1 0))] [.cells (row_api_Move a0), .cells (row_api_Move z_api_Move)] ?_
  refine AWP.seq ?_
  refine AWP.rg [] [(2, (.ptr 1 0))] [.cells (row_api_Move a0), .cells (row_api_Move (api_Move.mk a0.To a0.From))] ?_
  refine AWP.ret ?_
  have hr := someb hF
  subst hr
  exact (FnQ.f0 0 (.inr rfl))
def R_rewrite_Inverse (r : (List api_Move)) : PV → List Blk → Prop := fun p K => p = (slc 20 row_api_Move r) ∧ K = []
abbrev Q_rewrite_Inverse (r : (List api_Move)) : Exit → St → List Blk → Prop := FnQ Tryd.prog Tryd.f13.results 0 (R_rewrite_Inverse r)
theorem K_rewrite_Inverse (a0 : (List api_Move)) (r : (List api_Move)) (hF : F_rewrite_Inverse a0 = some r) : ACall Tryd.prog glob 13 [(slc 20 row_api_Move a0)] [] (R_rewrite_Inverse r) := by
  refine ACall.body Tryd.func13 rfl (by kernel_rfl) ?_
  unfold F_rewrite_Inverse at hF
  refine AWP.seq ?_
  refine AWP.rg0 [] [(0, (slc 20 row_api_Move a0))] ?_
  refine AWP.seq ?_
  refine AWP.rg0 [] [(0, (slc 20 row_api_Move a0)), (3, nils)] ?_
  refine AWP.own (H' := [bf 20 59 row_api_Move ([] : (List api_Move)) false]) (st' := [(3, (.own 0 (List.length ([] : (List api_Move))))), (0, (slc 20 row_api_Move a0))]) 3 20 59 (by kernel_rfl) (by kernel_rfl) (by kernel_rfl) ?_
  refine AWP.pick (st' := [(0, (slc 20 row_api_Move a0)), (3, (.own 0 (List.length ([] : (List api_Move)))))]) (ks := [0, 3]) (by kernel_rfl) ?_
  refine AWP.seq ?_
  refine AWP.seq ?_
  refine AWP.rg0 [(1, .len row_api_Move a0)] [(3, (.own 0 (List.length ([] : (List api_Move))))), (6, (slc 20 row_api_Move a0)), (7, (i64 (List.length a0 : Int))), (8, (i64 (0:Int)))] ?_
  obtain ⟨v16, h17, hF⟩ := bindb hF
  refine AWP.mid (fun e st H => e = .normal ∧ st = [(3, (.own 0 (List.length v16)))] ∧ H = [bf 20 59 row_api_Move v16 false]) ?_ ?_
  · clear hF
    refine AWP.kp [3, 6, 7, 8] 1 ?_
    refine AWP.bround (fun n st H => ∃ (v8 : (List api_Move)), ∃ (v9 : Int), F_rewrite_Inverse_L1 a0 n v8 v9 = some v16 ∧ st = [(3, (.own 0 (List.length v8))), (6, (slc 20 row_api_Move a0)), (7, (i64 (List.length a0 : Int))), (8, (i64 v9))] ∧ H = [bf 20 59 row_api_Move v8 false]) fuel ⟨([] : (List api_Move)), (0:Int), h17, by kernel_rfl, by kernel_rfl⟩ ?_
    rintro n18 st H ⟨v8, v9, hF, rfl, rfl⟩
    cases n18 with
    | zero => exact noneb hF
    | succ n18 =>
      rw [F_rewrite_Inverse_L1] at hF
      refine AWP.seq ?_
      refine AWP.rg0 [] [(3, (.own 0 (List.length v8))), (6, (slc 20 row_api_Move a0)), (7, (i64 (List.length a0 : Int))), (8, (i64 v9)), (9, (vb (decide (v9 < (List.length a0 : Int)))))] ?_
      refine AWP.seq ?_
      refine AWP.cif hF (fun h24 hF => ?_) (fun h24 hF => ?_)
      · refine AWP.skip ?_
        refine AWP.seq ?_
        refine AWP.block ?_
        refine AWP.seq ?_
        obtain ⟨x19, h20, hF⟩ := bindb hF
        refine AWP.rg [(0, .idx row_api_Move h20)] [(3, (.own 0 (List.length v8))), (5, (.ptr 1 0)), (6, (slc 20 row_api_Move a0)), (7, (i64 (List.length a0 : Int))), (8, (i64 v9))] [bf 20 59 row_api_Move v8 false, .cells (row_api_Move x19)] ?_
        obtain ⟨r21, h22, hF⟩ := bindb hF
        obtain ⟨h23, hF⟩ := chkb hF
        refine AWP.rg [(2, .call Tryd.func32 [] (K_rewrite_turned x19 r21 h22)), (4, .app row_api_Move (fun _ => by kernel_rfl) h23)] [(3, (.own 0 (List.length (v8 ++ [r21])))), (6, (slc 20 row_api_Move a0)), (7, (i64 (List.length a0 : Int))), (8, (i64 v9))] [bf 20 59 row_api_Move (v8 ++ [r21]) false, .cells (row_api_Move x19)] ?_
        refine AWP.rg0 [] [(3, (.own 0 (List.length (v8 ++ [r21])))), (6, (slc 20 row_api_Move a0)), (7, (i64 (List.length a0 : Int))), (8, (i64 (IntKind.wrap .i64 (v9 + (1:Int)))))] ?_
        refine LeQ.start ?_
        refine LeQ.pk [3, 6, 7, 8] 1 ?_
        exact ⟨n18, Nat.lt_succ_self _, (v8 ++ [r21]), (IntKind.wrap .i64 (v9 + (1:Int))), hF, by kernel_rfl, by kernel_rfl⟩
      · refine AWP.exit ?_
        refine LeQ.start ?_
        refine LeQ.pk [3] 1 ?_
        have hr := someb hF
        subst hr
        exact ⟨rfl, by kernel_rfl, by kernel_rfl⟩
  · rintro _ _ _ ⟨rfl, rfl, rfl⟩
    refine AWP.seq ?_
    refine AWP.rg0 [] [(2, (.own 0 (List.length v16)))] ?_
    refine AWP.ret ?_
    have hr := someb hF
    subst hr
    exact (FnQ.f1 0 (.inr rfl) (.inl (Wk.ownT (i := 0) (s := 20) (t := 59) (l := v16) (sh := false) (row := row_api_Move) (by kernel_rfl) (.inl rfl))))
def R_box_Valid (r : Bool) : PV → List Blk → Prop := fun p K => p = (vb r) ∧ K = []
abbrev Q_box_Valid (r : Bool) : Exit → St → List Blk → Prop := FnQ Tryd.prog Tryd.f59.results 0 (R_box_Valid r)
theorem K_box_Valid (a0 : (Arr5 api_Range)) (r : Bool) (hF : F_box_Valid a0 = some r) : ACall Tryd.prog glob 59 [(pv_a5_api_Range a0)] [] (R_box_Valid r) := by
  refine ACall.body Tryd.func59 rfl (by kernel_rfl) ?_
  unfold F_box_Valid at hF
  refine AWP.seq ?_
  refine AWP.rg [] [(1, (.ptr 0 0))] [.cells (row_a5_api_Range a0)] ?_
  refine AWP.seq ?_
  refine AWP.seq ?_
  refine AWP.rg0 [] [(5, (pv_a5_api_Range a0)), (6, (i64 (0:Int)))] ?_
  obtain ⟨o12, h13, hF⟩ := bindb hF
  refine AWP.mid (fun e st H => (e = .normal ∧ o12 = (.inl ()) ∧ st = [] ∧ H = [.cells (row_a5_api_Range a0)]) ∨ (e = .ret ∧ ∃ (r : Bool), o12 = (.inr r) ∧ Q_box_Valid r e st H)) ?_ ?_
  · clear hF
    refine AWP.kp [5, 6] 1 ?_
    refine AWP.bround (fun n st H => ∃ (v1 : Int), F_box_Valid_L1 a0 n v1 = some o12 ∧ st = [(5, (pv_a5_api_Range a0)), (6, (i64 v1))] ∧ H = [.cells (row_a5_api_Range a0)]) fuel ⟨(0:Int), h13, by kernel_rfl, by kernel_rfl⟩ ?_
    rintro n14 st H ⟨v1, hF, rfl, rfl⟩
    cases n14 with
    | zero => exact noneb hF
    | succ n14 =>
      rw [F_box_Valid_L1] at hF
      refine AWP.seq ?_
      refine AWP.rg0 [] [(5, (pv_a5_api_Range a0)), (6, (i64 v1)), (7, (vb (decide (v1 < (5:Int)))))] ?_
      refine AWP.seq ?_
      refine AWP.cif hF (fun h24 hF => ?_) (fun h24 hF => ?_)
      · refine AWP.skip ?_
        refine AWP.seq ?_
        refine AWP.block ?_
        refine AWP.seq ?_
        obtain ⟨h15, hF⟩ := chkb hF
        refine AWP.rg [(1, .ixA row_api_Range (Arr5.get a0) h15)] [(3, (i64 v1)), (4, (.ptr 1 0)), (5, (pv_a5_api_Range a0)), (6, (i64 v1))] [.cells (row_a5_api_Range a0), .cells (row_api_Range (Arr5.get a0 v1))] ?_
        refine AWP.seq ?_
        obtain ⟨b16, h17, hF⟩ := bindb hF
        replace h17 := someb h17
        obtain ⟨v19, h20, hF⟩ := bindb hF
        refine AWP.to [(5, (pv_a5_api_Range a0)), (6, (i64 v1)), (22, (vb v19))] [.cells (row_a5_api_Range a0), .cells (row_api_Range (Arr5.get a0 v1))] ?_ ?_
        · cases b16 with
          | false =>
            have h21 := ifF h20 rfl
            obtain ⟨h18, h21⟩ := chkb h21
            replace h21 := someb h21
            subst h21
            exact AWP.drT [(5, .bool h17), (9, .ixd h18), (10, .ldA row_u32 (Arr5.get glob_box_tops) 0 1 0 h18)] 13 [] [] []
          | true =>
            have h22 := someb (ifT h20 rfl)
            subst h22
            exact AWP.drT [(5, .bool h17)] 13 [] [] []
        refine AWP.cif hF (fun h23 hF => ?_) (fun h23 hF => ?_)
        · refine AWP.seq ?_
          refine AWP.rg0 [] [(2, (vb false))] ?_
          refine AWP.ret ?_
          exact LeQ.of (.inr ⟨rfl, false, (someb hF).symm, (FnQ.f0 0 (.inr rfl))⟩)
        · refine AWP.skip ?_
          refine AWP.rg0 [] [(5, (pv_a5_api_Range a0)), (6, (i64 (IntKind.wrap .i64 (v1 + (1:Int)))))] ?_
          refine LeQ.start ?_
          refine LeQ.pk [5, 6] 1 ?_
          exact ⟨n14, Nat.lt_succ_self _, (IntKind.wrap .i64 (v1 + (1:Int))), hF, by kernel_rfl, by kernel_rfl⟩
      · refine AWP.exit ?_
        refine LeQ.start ?_
        refine LeQ.pk [] 1 ?_
        exact (.inl ⟨rfl, (someb hF).symm, by kernel_rfl, by kernel_rfl⟩)
  · rintro _ _ _ (⟨rfl, rfl, rfl, rfl⟩ | ⟨rfl, r25, rfl, hq⟩)
    · refine AWP.seq ?_
      refine AWP.rg0 [] [(2, (vb true))] ?_
      refine AWP.ret ?_
      have hr := someb hF
      subst hr
      exact (FnQ.f0 0 (.inr rfl))
    · have hr := someb hF
      subst hr
      exact hq
def R_rewrite_validMove (r : Bool) : PV → List Blk → Prop := fun p K => p = (vb r) ∧ K = []
abbrev Q_rewrite_validMove (r : Bool) : Exit → St → List Blk → Prop := FnQ Tryd.prog Tryd.f35.results 0 (R_rewrite_validMove r)
theorem K_rewrite_validMove (a0 : api_Move) (r : Bool) (hF : F_rewrite_validMove a0 = some r) : ACall Tryd.prog glob 35 [(pv_api_Move a0)] [] (R_rewrite_validMove r) := by
  refine ACall.body Tryd.func35 rfl (by kernel_rfl) ?_
  unfold F_rewrite_validMove at hF
  refine AWP.seq ?_
  refine AWP.rg [] [(1, (.ptr 0 0))] [.cells (row_api_Move a0)] ?_
  refine AWP.seq ?_
  refine AWP.seq ?_
  obtain ⟨r1, h2, hF⟩ := bindb hF
  obtain ⟨b3, h4, hF⟩ := bindb hF
  replace h4 := someb h4
  obtain ⟨v7, h8, hF⟩ := bindb hF
  refine AWP.to [(1, (.ptr 0 0)), (14, (vb v7))] [.cells (row_api_Move a0)] ?_ ?_
  · cases b3 with
    | false =>
      have h9 := ifF h8 rfl
      obtain ⟨r5, h6, h9⟩ := bindb h9
      replace h9 := someb h9
      subst h9
      exact AWP.rgT [(2, .call Tryd.func59 [] (K_box_Valid a0.From r1 h2)), (4, .bool h4), (7, .call Tryd.func59 [] (K_box_Valid a0.To r5 h6))]
    | true =>
      have h10 := someb (ifT h8 rfl)
      subst h10
      exact AWP.rgT [(2, .call Tryd.func59 [] (K_box_Valid a0.From r1 h2)), (4, .bool h4)]
  refine AWP.cif hF (fun h26 hF => ?_) (fun h26 hF => ?_)
  · refine AWP.seq ?_
    refine AWP.rg0 [] [(2, (vb false))] ?_
    refine AWP.ret ?_
    have hr := someb hF
    subst hr
    exact (FnQ.f0 0 (.inr rfl))
  · refine AWP.skip ?_
    refine AWP.seq ?_
    refine AWP.seq ?_
    refine AWP.rg0 [] [(1, (.ptr 0 0)), (16, (pv_a5_api_Range a0.From)), (17, (i64 (0:Int)))] ?_
    obtain ⟨o17, h18, hF⟩ := bindb hF
    refine AWP.mid (fun e st H => (e = .normal ∧ o17 = (.inl ()) ∧ st = [] ∧ H = [.cells (row_api_Move a0)]) ∨ (e = .ret ∧ ∃ (r : Bool), o17 = (.inr r) ∧ Q_rewrite_validMove r e st H)) ?_ ?_
    · clear hF
      refine AWP.kp [1, 16, 17] 1 ?_
      refine AWP.bround (fun n st H => ∃ (v11 : Int), F_rewrite_validMove_L1 a0 n v11 = some o17 ∧ st = [(1, (.ptr 0 0)), (16, (pv_a5_api_Range a0.From)), (17, (i64 v11))] ∧ H = [.cells (row_api_Move a0)]) fuel ⟨(0:Int), h18, by kernel_rfl, by kernel_rfl⟩ ?_
      rintro n19 st H ⟨v11, hF, rfl, rfl⟩
      cases n19 with
      | zero => exact noneb hF
      | succ n19 =>
        rw [F_rewrite_validMove_L1] at hF
        refine AWP.seq ?_
        refine AWP.rg0 [] [(1, (.ptr 0 0)), (16, (pv_a5_api_Range a0.From)), (17, (i64 v11)), (18, (vb (decide (v11 < (5:Int)))))] ?_
        refine AWP.seq ?_
        refine AWP.cif hF (fun h24 hF => ?_) (fun h24 hF => ?_)
        · refine AWP.skip ?_
          refine AWP.seq ?_
          refine AWP.block ?_
          refine AWP.seq ?_
          obtain ⟨h20, hF⟩ := chkb hF
          refine AWP.rg [(1, .ixA row_api_Range (Arr5.get a0.From) h20)] [(1, (.ptr 0 0)), (3, (i64 v11)), (4, (.ptr 1 0)), (16, (pv_a5_api_Range a0.From)), (17, (i64 v11))] [.cells (row_api_Move a0), .cells (row_api_Range (Arr5.get a0.From v11))] ?_
          refine AWP.seq ?_
          obtain ⟨h21, hF⟩ := chkb hF
          obtain ⟨h22, hF⟩ := chkb hF
          refine AWP.dr [(7, .ixd h21), (9, .ldA row_api_Range (Arr5.get a0.To) 10 2 1 h21), (12, .ixd h22), (14, .ldA row_api_Range (Arr5.get a0.To) 10 2 0 h22)] 17 [] [] [] [(1, (.ptr 0 0)), (16, (pv_a5_api_Range a0.From)), (17, (i64 v11)), (37, (vb ((IntKind.wrap .u32 ((Arr5.get a0.From v11).Hi - (Arr5.get a0.From v11).Lo)) != (IntKind.wrap .u32 ((Arr5.get a0.To v11).Hi - (Arr5.get a0.To v11).Lo)))))] [.cells (row_api_Move a0), .cells (row_api_Range (Arr5.get a0.From v11))] ?_
          refine AWP.cif hF (fun h23 hF => ?_) (fun h23 hF => ?_)
          · refine AWP.seq ?_
            refine AWP.rg0 [] [(2, (vb false))] ?_
            refine AWP.ret ?_
            exact LeQ.of (.inr ⟨rfl, false, (someb hF).symm, (FnQ.f0 0 (.inr rfl))⟩)
          · refine AWP.skip ?_
            refine AWP.rg0 [] [(1, (.ptr 0 0)), (16, (pv_a5_api_Range a0.From)), (17, (i64 (IntKind.wrap .i64 (v11 + (1:Int)))))] ?_
            refine LeQ.start ?_
            refine LeQ.pk [1, 16, 17] 1 ?_
            exact ⟨n19, Nat.lt_succ_self _, (IntKind.wrap .i64 (v11 + (1:Int))), hF, by kernel_rfl, by kernel_rfl⟩
        · refine AWP.exit ?_
          refine LeQ.start ?_
          refine LeQ.pk [] 1 ?_
          exact (.inl ⟨rfl, (someb hF).symm, by kernel_rfl, by kernel_rfl⟩)
    · rintro _ _ _ (⟨rfl, rfl, rfl, rfl⟩ | ⟨rfl, r25, rfl, hq⟩)
      · refine AWP.seq ?_
        refine AWP.rg0 [] [(2, (vb true))] ?_
        refine AWP.ret ?_
        have hr := someb hF
        subst hr
        exact (FnQ.f0 0 (.inr rfl))
      · have hr := someb hF
        subst hr
        exact hq
def R_box_values (r : (Arr5 Int)) : PV → List Blk → Prop := fun p K => p = (pv_a5_u32 r) ∧ K = []
abbrev Q_box_values (r : (Arr5 Int)) : Exit → St → List Blk → Prop := FnQ Tryd.prog Tryd.f60.results 0 (R_box_values r)
theorem K_box_values (a0 : api_Header) (r : (Arr5 Int)) (hF : F_box_values a0 = some r) : ACall Tryd.prog glob 60 [(pv_api_Header a0)] [] (R_box_values r) := by
  refine ACall.body Tryd.func60 rfl (by kernel_rfl) ?_
  unfold F_box_values at hF
  refine AWP.seq ?_
  refine AWP.rg [] [(1, (.ptr 0 0)), (2, (.ptr 1 0))] [.cells (row_api_Header a0), .cells (row_a5_u32 z_a5_u32)] ?_
  refine AWP.seq ?_
  refine AWP.rg [] [(2, (.ptr 1 0))] [.cells (row_api_Header a0), .cells (row_a5_u32 (Arr5.mk a0.Src a0.Dst (IntKind.wrap .u32 a0.Proto) (IntKind.wrap .u32 a0.SrcPort) (IntKind.wrap .u32 a0.DstPort)))] ?_
  refine AWP.ret ?_
  have hr := someb hF
  subst hr
  exact (FnQ.f0 0 (.inr rfl))
def R_box_Contains (r : Bool) : PV → List Blk → Prop := fun p K => p = (vb r) ∧ K = []
abbrev Q_box_Contains (r : Bool) : Exit → St → List Blk → Prop := FnQ Tryd.prog Tryd.f36.results 0 (R_box_Contains r)
theorem K_box_Contains (a0 : (Arr5 api_Range)) (a1 : api_Header) (r : Bool) (hF : F_box_Contains a0 a1 = some r) : ACall Tryd.prog glob 36 [(pv_a5_api_Range a0), (pv_api_Header a1)] [] (R_box_Contains r) := by
  refine ACall.body Tryd.func36 rfl (by kernel_rfl) ?_
  unfold F_box_Contains at hF
  refine AWP.seq ?_
  refine AWP.rg [] [(2, (.ptr 0 0)), (3, (.ptr 1 0))] [.cells (row_a5_api_Range a0), .cells (row_api_Header a1)] ?_
  refine AWP.seq ?_
  refine AWP.seq ?_
  obtain ⟨r1, h2, hF⟩ := bindb hF
  refine AWP.rg0 [(1, .call Tryd.func59 [] (K_box_Valid a0 r1 h2))] [(2, (.ptr 0 0)), (3, (.ptr 1 0)), (9, (vb (!r1)))] ?_
  refine AWP.cif hF (fun h32 hF => ?_) (fun h32 hF => ?_)
  · refine AWP.seq ?_
    refine AWP.rg0 [] [(4, (vb false))] ?_
    refine AWP.ret ?_
    have hr := someb hF
    subst hr
    exact (FnQ.f0 0 (.inr rfl))
  · refine AWP.skip ?_
    refine AWP.seq ?_
    refine AWP.seq ?_
    obtain ⟨r3, h4, hF⟩ := bindb hF
    refine AWP.rg0 [(1, .call Tryd.func60 [] (K_box_values a1 r3 h4))] [(2, (.ptr 0 0)), (11, (pv_a5_u32 r3)), (12, (i64 (0:Int)))] ?_
    obtain ⟨o17, h18, hF⟩ := bindb hF
    refine AWP.mid (fun e st H => (e = .normal ∧ o17 = (.inl ()) ∧ st = [] ∧ H = [.cells (row_a5_api_Range a0), .cells (row_api_Header a1)]) ∨ (e = .ret ∧ ∃ (r : Bool), o17 = (.inr r) ∧ Q_box_Contains r e st H)) ?_ ?_
    · clear hF
      refine AWP.kp [2, 11, 12] 2 ?_
      refine AWP.bround (fun n st H => ∃ (v5 : Int), F_box_Contains_L1 a0 r3 n v5 = some o17 ∧ st = [(2, (.ptr 0 0)), (11, (pv_a5_u32 r3)), (12, (i64 v5))] ∧ H = [.cells (row_a5_api_Range a0), .cells (row_api_Header a1)]) fuel ⟨(0:Int), h18, by kernel_rfl, by kernel_rfl⟩ ?_
      rintro n19 st H ⟨v5, hF, rfl, rfl⟩
      cases n19 with
      | zero => exact noneb hF
      | succ n19 =>
        rw [F_box_Contains_L1] at hF
        refine AWP.seq ?_
        refine AWP.rg0 [] [(2, (.ptr 0 0)), (11, (pv_a5_u32 r3)), (12, (i64 v5)), (13, (vb (decide (v5 < (5:Int)))))] ?_
        refine AWP.seq ?_
        refine AWP.cif hF (fun h30 hF => ?_) (fun h30 hF => ?_)
        · refine AWP.skip ?_
          refine AWP.seq ?_
          refine AWP.block ?_
          refine AWP.seq ?_
          obtain ⟨h20, hF⟩ := chkb hF
          refine AWP.rg0 [(1, .ixA row_u32 (Arr5.get r3) h20)] [(2, (.ptr 0 0)), (5, (i64 v5)), (6, (u32 (Arr5.get r3 v5))), (11, (pv_a5_u32 r3)), (12, (i64 v5))] ?_
          refine AWP.seq ?_
          obtain ⟨h21, hF⟩ := chkb hF
          obtain ⟨b22, h23, hF⟩ := bindb hF
          replace h23 := someb h23
          obtain ⟨v25, h26, hF⟩ := bindb hF
          refine AWP.to [(2, (.ptr 0 0)), (11, (pv_a5_u32 r3)), (12, (i64 v5)), (29, (vb v25))] [.cells (row_a5_api_Range a0), .cells (row_api_Header a1)] ?_ ?_
          · cases b22 with
            | false =>
              have h27 := ifF h26 rfl
              obtain ⟨h24, h27⟩ := chkb h27
              replace h27 := someb h27
              subst h27
              exact AWP.rgT [(2, .ixd h21), (4, .ldA row_api_Range (Arr5.get a0) 0 2 0 h21), (6, .bool h23), (9, .ixd h24), (11, .ldA row_api_Range (Arr5.get a0) 0 2 1 h24)]
            | true =>
              have h28 := someb (ifT h26 rfl)
              subst h28
              exact AWP.rgT [(2, .ixd h21), (4, .ldA row_api_Range (Arr5.get a0) 0 2 0 h21), (6, .bool h23)]
          refine AWP.cif hF (fun h29 hF => ?_) (fun h29 hF => ?_)
          · refine AWP.seq ?_
            refine AWP.rg0 [] [(4, (vb false))] ?_
            refine AWP.ret ?_
            exact LeQ.of (.inr ⟨rfl, false, (someb hF).symm, (FnQ.f0 0 (.inr rfl))⟩)
          · refine AWP.skip ?_
            refine AWP.rg0 [] [(2, (.ptr 0 0)), (11, (pv_a5_u32 r3)), (12, (i64 (IntKind.wrap .i64 (v5 + (1:Int)))))] ?_
            refine LeQ.start ?_
            refine LeQ.pk [2, 11, 12] 2 ?_
            exact ⟨n19, Nat.lt_succ_self _, (IntKind.wrap .i64 (v5 + (1:Int))), hF, by kernel_rfl, by kernel_rfl⟩
        · refine AWP.exit ?_
          refine LeQ.start ?_
          refine LeQ.pk [] 2 ?_
          exact (.inl ⟨rfl, (someb hF).symm, by kernel_rfl, by kernel_rfl⟩)
    · rintro _ _ _ (⟨rfl, rfl, rfl, rfl⟩ | ⟨rfl, r31, rfl, hq⟩)
      · refine AWP.seq ?_
        refine AWP.rg0 [] [(4, (vb true))] ?_
        refine AWP.ret ?_
        have hr := someb hF
        subst hr
        exact (FnQ.f0 0 (.inr rfl))
      · have hr := someb hF
        subst hr
        exact hq
def R_rewrite_Match_1 (a1 : api_Header) (r : Bool) : PV → List Blk → Prop := fun p K => p = (vb r) ∧ K = [.cells (row_api_Header a1)]
abbrev Q_rewrite_Match_1 (a1 : api_Header) (r : Bool) : Exit → St → List Blk → Prop := FnQ Tryd.prog Tryd.f34.results 1 (R_rewrite_Match_1 a1 r)
theorem K_rewrite_Match_1 (a0 : api_Move) (a1 : api_Header) (r : Bool) (hF : F_rewrite_Match_1 a0 a1 = some r) : ACall Tryd.prog glob 34 [(pv_api_Move a0), (.ptr 0 0)] [.cells (row_api_Header a1)] (R_rewrite_Match_1 a1 r) := by
  refine ACall.body Tryd.func34 rfl (by kernel_rfl) ?_
  unfold F_rewrite_Match_1 at hF
  refine AWP.seq ?_
  refine AWP.rg [] [(1, (.ptr 0 0)), (2, (.ptr 1 0))] [.cells (row_api_Header a1), .cells (row_api_Move a0)] ?_
  refine AWP.seq ?_
  obtain ⟨r1, h2, hF⟩ := bindb hF
  obtain ⟨b3, h4, hF⟩ := bindb hF
  replace h4 := someb h4
  obtain ⟨v7, h8, hF⟩ := bindb hF
  refine AWP.to [(3, (vb v7))] [.cells (row_api_Header a1), .cells (row_api_Move a0)] ?_ ?_
  · cases b3 with
    | false =>
      have h9 := someb (ifF h8 rfl)
      subst h9
      exact AWP.rgT [(1, .call Tryd.func35 [] (K_rewrite_validMove a0 r1 h2)), (2, .bool h4)]
    | true =>
      have h10 := ifT h8 rfl
      obtain ⟨r5, h6, h10⟩ := bindb h10
      replace h10 := someb h10
      subst h10
      exact AWP.rgT [(1, .call Tryd.func35 [] (K_rewrite_validMove a0 r1 h2)), (2, .bool h4), (6, .call Tryd.func36 [] (K_box_Contains a0.From a1 r5 h6))]
  refine AWP.ret ?_
  have hr := someb hF
  subst hr
  exact (FnQ.f0 1 (.inr rfl))
def R_slices_IndexFunc_api_Move_api_Move_of_Match_1 (a1 : api_Header) (r : Int) : PV → List Blk → Prop := fun p K => p = (i64 r) ∧ K = [.cells (row_api_Header a1)]
abbrev Q_slices_IndexFunc_api_Move_api_Move_of_Match_1 (a1 : api_Header) (r : Int) : Exit → St → List Blk → Prop := FnQ Tryd.prog Tryd.f33.results 1 (R_slices_IndexFunc_api_Move_api_Move_of_Match_1 a1 r)
theorem K_slices_IndexFunc_api_Move_api_Move_of_Match_1 (a0 : (List api_Move)) (a1 : api_Header) (r : Int) (hF : F_slices_IndexFunc_api_Move_api_Move_of_Match_1 a0 a1 = some r) : ACall Tryd.prog glob 33 [(slc 20 row_api_Move a0), (.fn 34 [(.ptr 0 0)])] [.cells (row_api_Header a1)] (R_slices_IndexFunc_api_Move_api_Move_of_Match_1 a1 r) := by
  refine ACall.body Tryd.func33 rfl (by kernel_rfl) ?_
  unfold F_slices_IndexFunc_api_Move_api_Move_of_Match_1 at hF
  refine AWP.seq ?_
  refine AWP.rg0 [] [(0, (slc 20 row_api_Move a0)), (1, (.fn 34 [(.ptr 0 0)]))] ?_
  refine AWP.seq ?_
  refine AWP.seq ?_
  refine AWP.rg0 [(1, .len row_api_Move a0)] [(0, (slc 20 row_api_Move a0)), (1, (.fn 34 [(.ptr 0 0)])), (7, (i64 (List.length a0 : Int))), (8, (i64 (0:Int)))] ?_
  obtain ⟨o8, h9, hF⟩ := bindb hF
  refine AWP.mid (fun e st H => (e = .normal ∧ o8 = (.inl ()) ∧ st = [] ∧ H = [.cells (row_api_Header a1)]) ∨ (e = .ret ∧ ∃ (r : Int), o8 = (.inr r) ∧ Q_slices_IndexFunc_api_Move_api_Move_of_Match_1 a1 r e st H)) ?_ ?_
  · clear hF
    refine AWP.kp [0, 1, 7, 8] 1 ?_
    refine AWP.bround (fun n st H => ∃ (v1 : Int), F_slices_IndexFunc_api_Move_api_Move_of_Match_1_L1 a0 a1 n v1 = some o8 ∧ st = [(0, (slc 20 row_api_Move a0)), (1, (.fn 34 [(.ptr 0 0)])), (7, (i64 (List.length a0 : Int))), (8, (i64 v1))] ∧ H = [.cells (row_api_Header a1)]) fuel ⟨(0:Int), h9, by kernel_rfl, by kernel_rfl⟩ ?_
    rintro n10 st H ⟨v1, hF, rfl, rfl⟩
    cases n10 with
    | zero => exact noneb hF
    | succ n10 =>
      rw [F_slices_IndexFunc_api_Move_api_Move_of_Match_1_L1] at hF
      refine AWP.seq ?_
      refine AWP.rg0 [] [(0, (slc 20 row_api_Move a0)), (1, (.fn 34 [(.ptr 0 0)])), (7, (i64 (List.length a0 : Int))), (8, (i64 v1)), (9, (vb (decide (v1 < (List.length a0 : Int)))))] ?_
      refine AWP.seq ?_
      refine AWP.cif hF (fun h16 hF => ?_) (fun h16 hF => ?_)
      · refine AWP.skip ?_
        refine AWP.seq ?_
        refine AWP.block ?_
        refine AWP.seq ?_
        refine AWP.rg0 [] [(0, (slc 20 row_api_Move a0)), (1, (.fn 34 [(.ptr 0 0)])), (5, (i64 v1)), (7, (i64 (List.length a0 : Int))), (8, (i64 v1))] ?_
        refine AWP.seq ?_
        obtain ⟨x11, h12, hF⟩ := bindb hF
        obtain ⟨r13, h14, hF⟩ := bindb hF
        refine AWP.rg0 [(3, .idx row_api_Move h12), (5, .callF Tryd.func34 [] (K_rewrite_Match_1 x11 a1 r13 h14))] [(0, (slc 20 row_api_Move a0)), (1, (.fn 34 [(.ptr 0 0)])), (5, (i64 v1)), (7, (i64 (List.length a0 : Int))), (8, (i64 v1)), (16, (vb r13))] ?_
        refine AWP.cif hF (fun h15 hF => ?_) (fun h15 hF => ?_)
        · refine AWP.seq ?_
          refine AWP.rg0 [] [(4, (i64 v1))] ?_
          refine AWP.ret ?_
          exact LeQ.of (.inr ⟨rfl, v1, (someb hF).symm, (FnQ.f0 1 (.inr rfl))⟩)
        · refine AWP.skip ?_
          refine AWP.rg0 [] [(0, (slc 20 row_api_Move a0)), (1, (.fn 34 [(.ptr 0 0)])), (7, (i64 (List.length a0 : Int))), (8, (i64 (IntKind.wrap .i64 (v1 + (1:Int)))))] ?_
          refine LeQ.start ?_
          refine LeQ.pk [0, 1, 7, 8] 1 ?_
          exact ⟨n10, Nat.lt_succ_self _, (IntKind.wrap .i64 (v1 + (1:Int))), hF, by kernel_rfl, by kernel_rfl⟩
      · refine AWP.exit ?_
        refine LeQ.start ?_
        refine LeQ.pk [] 1 ?_
        exact (.inl ⟨rfl, (someb hF).symm, by kernel_rfl, by kernel_rfl⟩)
  · rintro _ _ _ (⟨rfl, rfl, rfl, rfl⟩ | ⟨rfl, r17, rfl, hq⟩)
    · refine AWP.seq ?_
      refine AWP.rg0 [] [(4, (i64 (-1:Int)))] ?_
      refine AWP.ret ?_
      have hr := someb hF
      subst hr
      exact (FnQ.f0 1 (.inr rfl))
    · have hr := someb hF
      subst hr
      exact hq
def R_rewrite_Match (r : Int) : PV → List Blk → Prop := fun p K => p = (i64 r) ∧ K = []
abbrev Q_rewrite_Match (r : Int) : Exit → St → List Blk → Prop := FnQ Tryd.prog Tryd.f14.results 0 (R_rewrite_Match r)
theorem K_rewrite_Match (a0 : (List api_Move)) (a1 : api_Header) (r : Int) (hF : F_rewrite_Match a0 a1 = some r) : ACall Tryd.prog glob 14 [(slc 20 row_api_Move a0), (pv_api_Header a1)] [] (R_rewrite_Match r) := by
  refine ACall.body Tryd.func14 rfl (by kernel_rfl) ?_
  unfold F_rewrite_Match at hF
  refine AWP.seq ?_
  refine AWP.rg [] [(0, (slc 20 row_api_Move a0)), (3, (.ptr 0 0))] [.cells (row_api_Header a1)] ?_
  refine AWP.seq ?_
  obtain ⟨r1, h2, hF⟩ := bindb hF
  refine AWP.rg0 [(1, .q), (2, .call Tryd.func33 [] (K_slices_IndexFunc_api_Move_api_Move_of_Match_1 a0 a1 r1 h2))] [(4, (i64 r1))] ?_
  refine AWP.ret ?_
  have hr := someb hF
  subst hr
  exact (FnQ.f0 0 (.inr rfl))
def R_box_Value (r : Int) : PV → List Blk → Prop := fun p K => p = (u32 r) ∧ K = []
abbrev Q_box_Value (r : Int) : Exit → St → List Blk → Prop := FnQ Tryd.prog Tryd.f38.results 0 (R_box_Value r)
theorem K_box_Value (a0 : api_Header) (a1 : Int) (r : Int) (hF : F_box_Value a0 a1 = some r) : ACall Tryd.prog glob 38 [(pv_api_Header a0), (i64 a1)] [] (R_box_Value r) := by
  refine ACall.body Tryd.func38 rfl (by kernel_rfl) ?_
  unfold F_box_Value at hF
  refine AWP.seq ?_
  refine AWP.rg [] [(1, (i64 a1)), (2, (.ptr 0 0))] [.cells (row_api_Header a0)] ?_
  refine AWP.seq ?_
  refine AWP.seq ?_
  obtain ⟨b1, h2, hF⟩ := bindb hF
  replace h2 := someb h2
  refine AWP.to [(1, (i64 a1)), (2, (.ptr 0 0)), (10, (vb (b1 || (decide (a1 ≥ (5:Int))))))] [.cells (row_api_Header a0)] ?_ ?_
  · cases b1 with
    | false =>
      exact AWP.rgT [(2, .bool h2)]
    | true =>
      exact AWP.rgT [(2, .bool h2)]
  refine AWP.cif hF (fun h6 hF => ?_) (fun h6 hF => ?_)
  · refine AWP.seq ?_
    refine AWP.rg0 [] [(4, (u32 (0:Int)))] ?_
    refine AWP.ret ?_
    have hr := someb hF
    subst hr
    exact (FnQ.f0 0 (.inr rfl))
  · refine AWP.skip ?_
    refine AWP.seq ?_
    obtain ⟨r3, h4, hF⟩ := bindb hF
    obtain ⟨h5, hF⟩ := chkb hF
    refine AWP.rg0 [(1, .call Tryd.func60 [] (K_box_values a0 r3 h4)), (3, .ixA row_u32 (Arr5.get r3) h5)] [(4, (u32 (Arr5.get r3 a1)))] ?_
    refine AWP.ret ?_
    have hr := someb hF
    subst hr
    exact (FnQ.f0 0 (.inr rfl))
def R_box_header (r : api_Header) : PV → List Blk → Prop := fun p K => p = (pv_api_Header r) ∧ K = []
abbrev Q_box_header (r : api_Header) : Exit → St → List Blk → Prop := FnQ Tryd.prog Tryd.f61.results 0 (R_box_header r)
theorem K_box_header (a0 : (Arr5 Int)) (r : api_Header) (hF : F_box_header a0 = some r) : ACall Tryd.prog glob 61 [(pv_a5_u32 a0)] [] (R_box_header r) := by
  refine ACall.body Tryd.func61 rfl (by kernel_rfl) ?_
  unfold F_box_header at hF
  refine AWP.seq ?_
  refine AWP.rg [] [(1, (.ptr 0 0)), (2, (.ptr 1 0))] [.cells (row_a5_u32 a0), .cells (row_api_Header z_api_Header)] ?_
  refine AWP.seq ?_
  refine AWP.rg [] [(2, (.ptr 1 0))] [.cells (row_a5_u32 a0), .cells (row_api_Header (api_Header.mk a0.x0 a0.x1 (IntKind.wrap .u8 a0.x2) (IntKind.wrap .u16 a0.x3) (IntKind.wrap .u16 a0.x4)))] ?_
  refine AWP.ret ?_
  have hr := someb hF
  subst hr
  exact (FnQ.f0 0 (.inr rfl))
def R_box_With (r : api_Header) : PV → List Blk → Prop := fun p K => p = (pv_api_Header r) ∧ K = []
abbrev Q_box_With (r : api_Header) : Exit → St → List Blk → Prop := FnQ Tryd.prog Tryd.f37.results 0 (R_box_With r)
theorem K_box_With (a0 : api_Header) (a1 : Int) (a2 : Int) (r : api_Header) (hF : F_box_With a0 a1 a2 = some r) : ACall Tryd.prog glob 37 [(pv_api_Header a0), (i64 a1), (u32 a2)] [] (R_box_With r) := by
  refine ACall.body Tryd.func37 rfl (by kernel_rfl) ?_
  unfold F_box_With at hF
  refine AWP.seq ?_
  refine AWP.rg [] [(1, (i64 a1)), (2, (u32 a2)), (3, (.ptr 0 0)), (6, (.ptr 1 0))] [.cells (row_api_Header a0), .cells (row_api_Header z_api_Header)] ?_
  refine AWP.seq ?_
  refine AWP.seq ?_
  obtain ⟨b1, h2, hF⟩ := bindb hF
  replace h2 := someb h2
  obtain ⟨b3, h4, hF⟩ := bindb hF
  replace h4 := someb h4
  obtain ⟨v6, h7, hF⟩ := bindb hF
  refine AWP.to [(1, (i64 a1)), (2, (u32 a2)), (3, (.ptr 0 0)), (6, (.ptr 1 0)), (20, (vb v6))] [.cells (row_api_Header a0), .cells (row_api_Header z_api_Header)] ?_ ?_
  · cases b1 with
    | false =>
      cases b3 with
      | false =>
        have h8 := ifF h7 rfl
        obtain ⟨h5, h8⟩ := chkb h8
        replace h8 := someb h8
        subst h8
        exact AWP.rgT [(2, .bool h2), (6, .bool h4), (9, .ixd h5), (10, .ldA row_u32 (Arr5.get glob_box_tops) 0 1 0 h5)]
      | true =>
        have h9 := someb (ifT h7 rfl)
        subst h9
        exact AWP.rgT [(2, .bool h2), (6, .bool h4)]
    | true =>
      subst h4
      have h10 := someb (ifT h7 rfl)
      subst h10
      exact AWP.rgT [(2, .bool h2)]
  refine AWP.cif hF (fun h18 hF => ?_) (fun h18 hF => ?_)
  · refine AWP.seq ?_
    refine AWP.rg [] [(6, (.ptr 1 0))] [.cells (row_api_Header a0), .cells (row_api_Header a0)] ?_
    refine AWP.ret ?_
    have hr := someb hF
    subst hr
    exact (FnQ.f0 0 (.inr rfl))
  · refine AWP.skip ?_
    refine AWP.seq ?_
    obtain ⟨r11, h12, hF⟩ := bindb hF
    refine AWP.rg [(1, .call Tryd.func60 [] (K_box_values a0 r11 h12))] [(1, (i64 a1)), (2, (u32 a2)), (6, (.ptr 1 0)), (7, (.ptr 2 0))] [.cells (row_api_Header a0), .cells (row_api_Header z_api_Header), .cells (row_a5_u32 r11)] ?_
    refine AWP.seq ?_
    obtain ⟨h13, hF⟩ := chkb hF
    refine AWP.rg [(2, .ixd h13), (3, .stA (fun q15 => row_a5_u32 (Arr5.set r11 q15 a2)) 0 1 0 h13)] [(6, (.ptr 1 0)), (7, (.ptr 2 0))] [.cells (row_api_Header a0), .cells (row_api_Header z_api_Header), .cells (row_a5_u32 (Arr5.set r11 a1 a2))] ?_
    refine AWP.seq ?_
    obtain ⟨r16, h17, hF⟩ := bindb hF
    refine AWP.rg [(1, .call Tryd.func61 [] (K_box_header (Arr5.set r11 a1 a2) r16 h17))] [(6, (.ptr 1 0))] [.cells (row_api_Header a0), .cells (row_api_Header r16), .cells (row_a5_u32 (Arr5.set r11 a1 a2))] ?_
    refine AWP.ret ?_
    have hr := someb hF
    subst hr
    exact (FnQ.f0 0 (.inr rfl))
def R_rewrite_Apply (r : api_Header) : PV → List Blk → Prop := fun p K => p = (pv_api_Header r) ∧ K = []
abbrev Q_rewrite_Apply (r : api_Header) : Exit → St → List Blk → Prop := FnQ Tryd.prog Tryd.f15.results 0 (R_rewrite_Apply r)
theorem K_rewrite_Apply (a0 : (List api_Move)) (a1 : api_Header) (r : api_Header) (hF : F_rewrite_Apply a0 a1 = some r) : ACall Tryd.prog glob 15 [(slc 20 row_api_Move a0), (pv_api_Header a1)] [] (R_rewrite_Apply r) := by
  refine ACall.body Tryd.func15 rfl (by kernel_rfl) ?_
  unfold F_rewrite_Apply at hF
  refine AWP.seq ?_
  refine AWP.rg [] [(0, (slc 20 row_api_Move a0)), (3, (.ptr 0 0)), (4, (.ptr 1 0))] [.cells (row_api_Header a1), .cells (row_api_Header z_api_Header)] ?_
  refine AWP.seq ?_
  obtain ⟨r1, h2, hF⟩ := bindb hF
  refine AWP.rg0 [(2, .call Tryd.func14 [] (K_rewrite_Match a0 a1 r1 h2))] [(0, (slc 20 row_api_Move a0)), (3, (.ptr 0 0)), (4, (.ptr 1 0)), (5, (i64 r1))] ?_
  refine AWP.seq ?_
  refine AWP.seq ?_
  refine AWP.rg0 [] [(0, (slc 20 row_api_Move a0)), (3, (.ptr 0 0)), (4, (.ptr 1 0)), (5, (i64 r1)), (13, (vb (decide (r1 < (0:Int)))))] ?_
  refine AWP.cif hF (fun h38 hF => ?_) (fun h38 hF => ?_)
  · refine AWP.seq ?_
    refine AWP.rg [] [(4, (.ptr 1 0))] [.cells (row_api_Header a1), .cells (row_api_Header a1)] ?_
    refine AWP.ret ?_
    have hr := someb hF
    subst hr
    exact (FnQ.f0 0 (.inr rfl))
  · refine AWP.skip ?_
    refine AWP.seq ?_
    refine AWP.rg [] [(0, (slc 20 row_api_Move a0)), (3, (.ptr 0 0)), (4, (.ptr 1 0)), (5, (i64 r1)), (6, (.ptr 2 0))] [.cells (row_api_Header a1), .cells (row_api_Header z_api_Header), .cells (row_api_Header a1)] ?_
    refine AWP.seq ?_
    refine AWP.seq ?_
    obtain ⟨x3, h4, hF⟩ := bindb hF
    refine AWP.rg0 [(2, .idx row_api_Move h4)] [(0, (slc 20 row_api_Move a0)), (3, (.ptr 0 0)), (4, (.ptr 1 0)), (5, (i64 r1)), (6, (.ptr 2 0)), (20, (pv_a5_api_Range x3.From)), (21, (i64 (0:Int)))] ?_
    obtain ⟨v26, h27, hF⟩ := bindb hF
    refine AWP.mid (fun e st H => e = .normal ∧ st = [(4, (.ptr 1 0)), (6, (.ptr 2 0))] ∧ H = [.cells (row_api_Header a1), .cells (row_api_Header z_api_Header), .cells (row_api_Header v26)]) ?_ ?_
    · clear hF
      refine AWP.kp [0, 3, 4, 5, 6, 20, 21] 3 ?_
      refine AWP.bround (fun n st H => ∃ (v15 : api_Header), ∃ (v16 : Int), F_rewrite_Apply_L1 a0 a1 r1 x3 n v15 v16 = some v26 ∧ st = [(0, (slc 20 row_api_Move a0)), (3, (.ptr 0 0)), (4, (.ptr 1 0)), (5, (i64 r1)), (6, (.ptr 2 0)), (20, (pv_a5_api_Range x3.From)), (21, (i64 v16))] ∧ H = [.cells (row_api_Header a1), .cells (row_api_Header z_api_Header), .cells (row_api_Header v15)]) fuel ⟨a1, (0:Int), h27, by kernel_rfl, by kernel_rfl⟩ ?_
      rintro n28 st H ⟨v15, v16, hF, rfl, rfl⟩
      cases n28 with
      | zero => exact noneb hF
      | succ n28 =>
        rw [F_rewrite_Apply_L1] at hF
        refine AWP.seq ?_
        refine AWP.rg0 [] [(0, (slc 20 row_api_Move a0)), (3, (.ptr 0 0)), (4, (.ptr 1 0)), (5, (i64 r1)), (6, (.ptr 2 0)), (20, (pv_a5_api_Range x3.From)), (21, (i64 v16)), (22, (vb (decide (v16 < (5:Int)))))] ?_
        refine AWP.seq ?_
        refine AWP.cif hF (fun h37 hF => ?_) (fun h37 hF => ?_)
        · refine AWP.skip ?_
          refine AWP.seq ?_
          refine AWP.block ?_
          refine AWP.seq ?_
          obtain ⟨h29, hF⟩ := chkb hF
          refine AWP.rg [(1, .ixA row_api_Range (Arr5.get x3.From) h29)] [(0, (slc 20 row_api_Move a0)), (3, (.ptr 0 0)), (4, (.ptr 1 0)), (5, (i64 r1)), (6, (.ptr 2 0)), (7, (i64 v16)), (8, (.ptr 3 0)), (20, (pv_a5_api_Range x3.From)), (21, (i64 v16))] [.cells (row_api_Header a1), .cells (row_api_Header z_api_Header), .cells (row_api_Header v15), .cells (row_api_Range (Arr5.get x3.From v16))] ?_
          obtain ⟨x30, h31, hF⟩ := bindb hF
          obtain ⟨h32, hF⟩ := chkb hF
          obtain ⟨r33, h34, hF⟩ := bindb hF
          obtain ⟨r35, h36, hF⟩ := bindb hF
          refine AWP.dr [(5, .idx row_api_Move h31), (7, .ixd h32), (9, .ldA row_api_Range (Arr5.get x30.To) 10 2 0 h32), (12, .call Tryd.func38 [] (K_box_Value a1 v16 r33 h34)), (17, .call Tryd.func37 [] (K_box_With v15 v16 (IntKind.wrap .u32 ((Arr5.get x30.To v16).Lo + (IntKind.wrap .u32 (r33 - (Arr5.get x3.From v16).Lo)))) r35 h36))] 18 [] [] [] [(0, (slc 20 row_api_Move a0)), (3, (.ptr 0 0)), (4, (.ptr 1 0)), (5, (i64 r1)), (6, (.ptr 2 0)), (20, (pv_a5_api_Range x3.From)), (21, (i64 v16))] [.cells (row_api_Header a1), .cells (row_api_Header z_api_Header), .cells (row_api_Header r35), .cells (row_api_Range (Arr5.get x3.From v16))] ?_
          refine AWP.rg0 [] [(0, (slc 20 row_api_Move a0)), (3, (.ptr 0 0)), (4, (.ptr 1 0)), (5, (i64 r1)), (6, (.ptr 2 0)), (20, (pv_a5_api_Range x3.From)), (21, (i64 (IntKind.wrap .i64 (v16 + (1:Int)))))] ?_
          refine LeQ.start ?_
          refine LeQ.pk [0, 3, 4, 5, 6, 20, 21] 3 ?_
          exact ⟨n28, Nat.lt_succ_self _, r35, (IntKind.wrap .i64 (v16 + (1:Int))), hF, by kernel_rfl, by kernel_rfl⟩
        · refine AWP.exit ?_
          refine LeQ.start ?_
          refine LeQ.pk [4, 6] 3 ?_
          have hr := someb hF
          subst hr
          exact ⟨rfl, by kernel_rfl, by kernel_rfl⟩
    · rintro _ _ _ ⟨rfl, rfl, rfl⟩
      refine AWP.seq ?_
      refine AWP.rg [] [(4, (.ptr 1 0))] [.cells (row_api_Header a1), .cells (row_api_Header v26), .cells (row_api_Header v26)] ?_
      refine AWP.ret ?_
      have hr := someb hF
      subst hr
      exact (FnQ.f0 0 (.inr rfl))
def R_nsglaw6_RewriteInverse (r : Bool) : PV → List Blk → Prop := fun p K => p = (vb r) ∧ K = []
abbrev Q_nsglaw6_RewriteInverse (r : Bool) : Exit → St → List Blk → Prop := FnQ Tryd.prog Tryd.f3.results 0 (R_nsglaw6_RewriteInverse r)
theorem K_nsglaw6_RewriteInverse (a0 : (List Int)) (a1 : api_Header) (r : Bool) (hF : F_nsglaw6_RewriteInverse a0 a1 = some r) : ACall Tryd.prog glob 3 [(slc 1 row_i64 a0), (pv_api_Header a1)] [] (R_nsglaw6_RewriteInverse r) := by
  refine ACall.body Tryd.func3 rfl (by kernel_rfl) ?_
  unfold F_nsglaw6_RewriteInverse at hF
  refine AWP.seq ?_
  refine AWP.rg [] [(0, (slc 1 row_i64 a0)), (3, (.ptr 0 0))] [.cells (row_api_Header a1)] ?_
  refine AWP.seq ?_
  obtain ⟨r1, h2, hF⟩ := bindb hF
  refine AWP.rg [(1, .call Tryd.func6 [] (K_nsggen_New a0 r1 h2))] [(3, (.ptr 0 0)), (5, (.ptr 1 0))] [.cells (row_api_Header a1), .cells (row_nsggen_Tape r1)] ?_
  refine AWP.seq ?_
  obtain ⟨r3, h4, hF⟩ := bindb hF
  refine AWP.rg [(1, .call Tryd.func7 [] (K_nsggen_Tape_Moves r1 (3:Int) false r3 h4))] [(3, (.ptr 0 0)), (5, (.ptr 1 0)), (6, (slc 20 row_api_Move r3.1))] [.cells (row_api_Header a1), .cells (row_nsggen_Tape r3.2)] ?_
  refine AWP.seq ?_
  refine AWP.seq ?_
  obtain ⟨r5, h6, hF⟩ := bindb hF
  obtain ⟨b7, h8, hF⟩ := bindb hF
  replace h8 := someb h8
  obtain ⟨v13, h14, hF⟩ := bindb hF
  refine AWP.to [(3, (.ptr 0 0)), (5, (.ptr 1 0)), (6, (slc 20 row_api_Move r3.1)), (22, (vb v13))] [.cells (row_api_Header a1), .cells (row_nsggen_Tape r3.2)] ?_ ?_
  · cases b7 with
    | false =>
      have h15 := ifF h14 rfl
      obtain ⟨r9, h10, h15⟩ := bindb h15
      obtain ⟨r11, h12, h15⟩ := bindb h15
      replace h15 := someb h15
      subst h15
      exact AWP.rgT [(1, .call Tryd.func8 [] (K_nsgref6_Valid r3.1 r5 h6)), (3, .bool h8), (5, .call Tryd.func9 [] (K_nsgref6_Inverse r3.1 r9 h10)), (6, .call Tryd.func8 [] (K_nsgref6_Valid r9 r11 h12))]
    | true =>
      have h16 := someb (ifT h14 rfl)
      subst h16
      exact AWP.rgT [(1, .call Tryd.func8 [] (K_nsgref6_Valid r3.1 r5 h6)), (3, .bool h8)]
  refine AWP.cif hF (fun h76 hF => ?_) (fun h76 hF => ?_)
  · refine AWP.seq ?_
    obtain ⟨r17, h18, hF⟩ := bindb hF
    refine AWP.rg0 [(0, .call Tryd.func10 [] (K_nsglaw6_sane r17 h18))] [(4, (vb r17))] ?_
    refine AWP.ret ?_
    have hr := someb hF
    subst hr
    exact (FnQ.f0 0 (.inr rfl))
  · refine AWP.skip ?_
    refine AWP.seq ?_
    obtain ⟨r19, h20, hF⟩ := bindb hF
    obtain ⟨r21, h22, hF⟩ := bindb hF
    obtain ⟨r23, h24, hF⟩ := bindb hF
    obtain ⟨r25, h26, hF⟩ := bindb hF
    refine AWP.dr [(3, .call Tryd.func12 [] (K_nsglaw6_ends r3.1 r19 h20)), (4, .call Tryd.func11 [] (K_nsggen_Tape_Near r3.2 r19 r21 h22)), (7, .call Tryd.func12 [] (K_nsglaw6_ends r3.1 r23 h24)), (8, .call Tryd.func11 [] (K_nsggen_Tape_Near r21.2 r23 r25 h26))] 10 [] [4, 7, 8] [] [(6, (slc 20 row_api_Move r3.1)), (7, (slc 5 row_api_Header [a1, r21.1, r25.1]))] [.cells (row_api_Header a1), .cells (row_nsggen_Tape r25.2)] ?_
    refine AWP.seq ?_
    obtain ⟨r27, h28, hF⟩ := bindb hF
    refine AWP.rg0 [(1, .call Tryd.func13 [] (K_rewrite_Inverse r3.1 r27 h28))] [(6, (slc 20 row_api_Move r3.1)), (7, (slc 5 row_api_Header [a1, r21.1, r25.1])), (8, (slc 20 row_api_Move r27))] ?_
    refine AWP.seq ?_
    refine AWP.seq ?_
    refine AWP.rg0 [] [(6, (slc 20 row_api_Move r3.1)), (7, (slc 5 row_api_Header [a1, r21.1, r25.1])), (8, (slc 20 row_api_Move r27)), (9, (i64 (0:Int)))] ?_
    obtain ⟨o50, h51, hF⟩ := bindb hF
    refine AWP.mid (fun e st H => (e = .normal ∧ o50 = (.inl ()) ∧ st = [] ∧ H = [.cells (row_api_Header a1), .cells (row_nsggen_Tape r25.2)]) ∨ (e = .ret ∧ ∃ (r : Bool), o50 = (.inr r) ∧ Q_nsglaw6_RewriteInverse r e st H)) ?_ ?_
    · clear hF
      refine AWP.kp [6, 7, 8, 9] 2 ?_
      refine AWP.bround (fun n st H => ∃ (v29 : Int), F_nsglaw6_RewriteInverse_L1 a1 r3 r21 r25 r27 n v29 = some o50 ∧ st = [(6, (slc 20 row_api_Move r3.1)), (7, (slc 5 row_api_Header [a1, r21.1, r25.1])), (8, (slc 20 row_api_Move r27)), (9, (i64 v29))] ∧ H = [.cells (row_api_Header a1), .cells (row_nsggen_Tape r25.2)]) fuel ⟨(0:Int), h51, by kernel_rfl, by kernel_rfl⟩ ?_
      rintro n52 st H ⟨v29, hF, rfl, rfl⟩
      cases n52 with
      | zero => exact noneb hF
      | succ n52 =>
        rw [F_nsglaw6_RewriteInverse_L1] at hF
        refine AWP.seq ?_
        refine AWP.seq ?_
        refine AWP.rg0 [(2, .len row_api_Header [a1, r21.1, r25.1])] [(6, (slc 20 row_api_Move r3.1)), (7, (slc 5 row_api_Header [a1, r21.1, r25.1])), (8, (slc 20 row_api_Move r27)), (9, (i64 v29)), (39, (vb (decide (v29 < (List.length [a1, r21.1, r25.1] : Int)))))] ?_
        refine AWP.cif hF (fun h72 hF => ?_) (fun h72 hF => ?_)
        · refine AWP.skip ?_
          refine AWP.seq ?_
          refine AWP.block ?_
          refine AWP.seq ?_
          obtain ⟨x53, h54, hF⟩ := bindb hF
          obtain ⟨r55, h56, hF⟩ := bindb hF
          obtain ⟨b57, h58, hF⟩ := bindb hF
          replace h58 := someb h58
          obtain ⟨v67, h68, hF⟩ := bindb hF
          refine AWP.to [(6, (slc 20 row_api_Move r3.1)), (7, (slc 5 row_api_Header [a1, r21.1, r25.1])), (8, (slc 20 row_api_Move r27)), (9, (i64 v29)), (63, (vb v67))] [.cells (row_api_Header a1), .cells (row_nsggen_Tape r25.2)] ?_ ?_
          · cases b57 with
            | false =>
              have h69 := someb (ifF h68 rfl)
              subst h69
              exact AWP.drT [(3, .idx row_api_Header h54), (5, .call Tryd.func14 [] (K_rewrite_Match r3.1 x53 r55 h56)), (7, .bool h58)] 22 [] [] []
            | true =>
              have h70 := ifT h68 rfl
              obtain ⟨x59, h60, h70⟩ := bindb h70
              obtain ⟨r61, h62, h70⟩ := bindb h70
              obtain ⟨r63, h64, h70⟩ := bindb h70
              obtain ⟨x65, h66, h70⟩ := bindb h70
              replace h70 := someb h70
              subst h70
              exact AWP.drT [(3, .idx row_api_Header h54), (5, .call Tryd.func14 [] (K_rewrite_Match r3.1 x53 r55 h56)), (7, .bool h58), (12, .idx row_api_Header h60), (14, .call Tryd.func15 [] (K_rewrite_Apply r3.1 x59 r61 h62)), (15, .call Tryd.func15 [] (K_rewrite_Apply r27 r61 r63 h64)), (18, .idx row_api_Header h66)] 22 [] [] []
          refine AWP.cif hF (fun h71 hF => ?_) (fun h71 hF => ?_)
          · refine AWP.seq ?_
            refine AWP.rg0 [] [(4, (vb false))] ?_
            refine AWP.ret ?_
            exact LeQ.of (.inr ⟨rfl, false, (someb hF).symm, (FnQ.f0 0 (.inr rfl))⟩)
          · refine AWP.skip ?_
            refine AWP.rg0 [] [(6, (slc 20 row_api_Move r3.1)), (7, (slc 5 row_api_Header [a1, r21.1, r25.1])), (8, (slc 20 row_api_Move r27)), (9, (i64 (IntKind.wrap .i64 (v29 + (1:Int)))))] ?_
            refine LeQ.start ?_
            refine LeQ.pk [6, 7, 8, 9] 2 ?_
            exact ⟨n52, Nat.lt_succ_self _, (IntKind.wrap .i64 (v29 + (1:Int))), hF, by kernel_rfl, by kernel_rfl⟩
        · refine AWP.exit ?_
          refine LeQ.start ?_
          refine LeQ.pk [] 2 ?_
          exact (.inl ⟨rfl, (someb hF).symm, by kernel_rfl, by kernel_rfl⟩)
    · rintro _ _ _ (⟨rfl, rfl, rfl, rfl⟩ | ⟨rfl, r75, rfl, hq⟩)
      · refine AWP.seq ?_
        obtain ⟨r73, h74, hF⟩ := bindb hF
        refine AWP.rg0 [(0, .call Tryd.func10 [] (K_nsglaw6_sane r73 h74))] [(4, (vb r73))] ?_
        refine AWP.ret ?_
        have hr := someb hF
        subst hr
        exact (FnQ.f0 0 (.inr rfl))
      · have hr := someb hF
        subst hr
        exact hq
end Go.AM

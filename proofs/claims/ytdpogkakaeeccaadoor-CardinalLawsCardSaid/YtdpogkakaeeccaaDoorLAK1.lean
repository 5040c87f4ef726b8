/- Printed by gen.py: the functions of the program compute them. -/
import Derived.Test.YtdpogkakaeeccaaDoorProg
import Derived.Test.YtdpogkakaeeccaaDoorS
set_option maxRecDepth 100000
namespace Go.AM
open Go Go.Proofs
def R_nsglaw5_sane (r : Bool) : PV → List Blk → Prop := fun p K => p = (vb r) ∧ K = []
theorem K_nsglaw5_sane (r : Bool) (hF : F_nsglaw5_sane = some r) : ACall Tryd.prog glob 10 [] [] (R_nsglaw5_sane r) := by
  have hr := someb hF
  subst hr
  exact (T13_ok _ (List.mem_cons.2 (.inl rfl))).1
def R_cardinal_Add (r : api_Count) : PV → List Blk → Prop := fun p K => p = (pv_api_Count r) ∧ K = []
abbrev Q_cardinal_Add (r : api_Count) : Exit → St → List Blk → Prop := FnQ Tryd.prog Tryd.f8.results 0 (R_cardinal_Add r)
theorem K_cardinal_Add (a0 : api_Count) (a1 : api_Count) (r : api_Count) (hF : F_cardinal_Add a0 a1 = some r) : ACall Tryd.prog glob 8 [(pv_api_Count a0), (pv_api_Count a1)] [] (R_cardinal_Add r) := by
  refine ACall.body Tryd.func8 rfl (by kernel_rfl) ?_
  unfold F_cardinal_Add at hF
  refine AWP.seq ?_
  refine AWP.rg [] [(2, (.ptr 0 0)), (3, (.ptr 1 0)), (4, (.ptr 2 0))] [.cells (row_api_Count a0), .cells (row_api_Count a1), .cells (row_api_Count z_api_Count)] ?_
  refine AWP.seq ?_
  obtain ⟨h1, hF⟩ := chkb hF
  refine AWP.rg0 [(4, .ext (e := add64Entry) (ext_add64 h1) Tryd.func30 (by kernel_rfl) (by kernel_rfl) (by kernel_rfl) (by kernel_rfl))] [(2, (.ptr 0 0)), (3, (.ptr 1 0)), (4, (.ptr 2 0)), (5, (u64 ((a0.Lo + a1.Lo + (0:Int)) % 18446744073709551616))), (6, (u64 ((a0.Lo + a1.Lo + (0:Int)) / 18446744073709551616)))] ?_
  refine AWP.seq ?_
  obtain ⟨h2, hF⟩ := chkb hF
  refine AWP.rg0 [(5, .ext (e := add64Entry) (ext_add64 h2) Tryd.func30 (by kernel_rfl) (by kernel_rfl) (by kernel_rfl) (by kernel_rfl))] [(4, (.ptr 2 0)), (5, (u64 ((a0.Lo + a1.Lo + (0:Int)) % 18446744073709551616))), (7, (u64 ((a0.Hi + a1.Hi + ((a0.Lo + a1.Lo + (0:Int)) / 18446744073709551616)) % 18446744073709551616)))] ?_
  refine AWP.seq ?_
  refine AWP.rg [] [(4, (.ptr 2 0))] [.cells (row_api_Count a0), .cells (row_api_Count a1), .cells (row_api_Count (api_Count.mk ((a0.Hi + a1.Hi + ((a0.Lo + a1.Lo + (0:Int)) / 18446744073709551616)) % 18446744073709551616) ((a0.Lo + a1.Lo + (0:Int)) % 18446744073709551616)))] ?_
  refine AWP.ret ?_
  have hr := someb hF
  subst hr
  exact (FnQ.f0 0 (.inr rfl))
def R_cmp_isNaN_uint64 (r : Bool) : PV → List Blk → Prop := fun p K => p = (vb r) ∧ K = []
abbrev Q_cmp_isNaN_uint64 (r : Bool) : Exit → St → List Blk → Prop := FnQ Tryd.prog Tryd.f57.results 0 (R_cmp_isNaN_uint64 r)
theorem K_cmp_isNaN_uint64 (a0 : Int) (r : Bool) (hF : F_cmp_isNaN_uint64 a0 = some r) : ACall Tryd.prog glob 57 [(u64 a0)] [] (R_cmp_isNaN_uint64 r) := by
  refine ACall.body Tryd.func57 rfl (by kernel_rfl) ?_
  unfold F_cmp_isNaN_uint64 at hF
  refine AWP.seq ?_
  refine AWP.rg0 [] [(0, (u64 a0))] ?_
  refine AWP.seq ?_
  refine AWP.rg0 [] [(2, (vb (a0 != a0)))] ?_
  refine AWP.ret ?_
  have hr := someb hF
  subst hr
  exact (FnQ.f0 0 (.inr rfl))
def R_cmp_Compare_uint64 (r : Int) : PV → List Blk → Prop := fun p K => p = (i64 r) ∧ K = []
abbrev Q_cmp_Compare_uint64 (r : Int) : Exit → St → List Blk → Prop := FnQ Tryd.prog Tryd.f32.results 0 (R_cmp_Compare_uint64 r)
theorem K_cmp_Compare_uint64 (a0 : Int) (a1 : Int) (r : Int) (hF : F_cmp_Compare_uint64 a0 a1 = some r) : ACall Tryd.prog glob 32 [(u64 a0), (u64 a1)] [] (R_cmp_Compare_uint64 r) := by
  refine ACall.body Tryd.func32 rfl (by kernel_rfl) ?_
  unfold F_cmp_Compare_uint64 at hF
  refine AWP.seq ?_
  refine AWP.rg0 [] [(0, (u64 a0)), (1, (u64 a1))] ?_
  refine AWP.seq ?_
  obtain ⟨r1, h2, hF⟩ := bindb hF
  refine AWP.rg0 [(1, .call Tryd.func57 [] (K_cmp_isNaN_uint64 a0 r1 h2))] [(0, (u64 a0)), (1, (u64 a1)), (5, (vb r1))] ?_
  refine AWP.seq ?_
  obtain ⟨r3, h4, hF⟩ := bindb hF
  refine AWP.rg0 [(1, .call Tryd.func57 [] (K_cmp_isNaN_uint64 a1 r3 h4))] [(0, (u64 a0)), (1, (u64 a1)), (5, (vb r1)), (6, (vb r3))] ?_
  refine AWP.seq ?_
  refine AWP.seq ?_
  refine AWP.rg0 [] [(0, (u64 a0)), (1, (u64 a1)), (6, (vb r3)), (11, (vb r1))] ?_
  refine AWP.cif hF (fun h9 hF => ?_) (fun h9 hF => ?_)
  · refine AWP.seq ?_
    refine AWP.seq ?_
    refine AWP.rg0 [] [(12, (vb r3))] ?_
    refine AWP.cif hF (fun h5 hF => ?_) (fun h5 hF => ?_)
    · refine AWP.seq ?_
      refine AWP.rg0 [] [(4, (i64 (0:Int)))] ?_
      refine AWP.ret ?_
      have hr := someb hF
      subst hr
      exact (FnQ.f0 0 (.inr rfl))
    · refine AWP.skip ?_
      refine AWP.seq ?_
      refine AWP.rg0 [] [(4, (i64 (-1:Int)))] ?_
      refine AWP.ret ?_
      have hr := someb hF
      subst hr
      exact (FnQ.f0 0 (.inr rfl))
  · refine AWP.skip ?_
    refine AWP.seq ?_
    refine AWP.seq ?_
    refine AWP.rg0 [] [(0, (u64 a0)), (1, (u64 a1)), (13, (vb r3))] ?_
    refine AWP.cif hF (fun h8 hF => ?_) (fun h8 hF => ?_)
    · refine AWP.seq ?_
      refine AWP.rg0 [] [(4, (i64 (1:Int)))] ?_
      refine AWP.ret ?_
      have hr := someb hF
      subst hr
      exact (FnQ.f0 0 (.inr rfl))
    · refine AWP.skip ?_
      refine AWP.seq ?_
      refine AWP.seq ?_
      refine AWP.rg0 [] [(0, (u64 a0)), (1, (u64 a1)), (16, (vb (decide (a0 < a1))))] ?_
      refine AWP.cif hF (fun h7 hF => ?_) (fun h7 hF => ?_)
      · refine AWP.seq ?_
        refine AWP.rg0 [] [(4, (i64 (-1:Int)))] ?_
        refine AWP.ret ?_
        have hr := someb hF
        subst hr
        exact (FnQ.f0 0 (.inr rfl))
      · refine AWP.skip ?_
        refine AWP.seq ?_
        refine AWP.seq ?_
        refine AWP.rg0 [] [(19, (vb (decide (a0 > a1))))] ?_
        refine AWP.cif hF (fun h6 hF => ?_) (fun h6 hF => ?_)
        · refine AWP.seq ?_
          refine AWP.rg0 [] [(4, (i64 (1:Int)))] ?_
          refine AWP.ret ?_
          have hr := someb hF
          subst hr
          exact (FnQ.f0 0 (.inr rfl))
        · refine AWP.skip ?_
          refine AWP.seq ?_
          refine AWP.rg0 [] [(4, (i64 (0:Int)))] ?_
          refine AWP.ret ?_
          have hr := someb hF
          subst hr
          exact (FnQ.f0 0 (.inr rfl))
def R_cmp_Or_int (r : Int) : PV → List Blk → Prop := fun p K => p = (i64 r) ∧ K = []
abbrev Q_cmp_Or_int (r : Int) : Exit → St → List Blk → Prop := FnQ Tryd.prog Tryd.f31.results 0 (R_cmp_Or_int r)
theorem K_cmp_Or_int (a0 : (List Int)) (r : Int) (hF : F_cmp_Or_int a0 = some r) : ACall Tryd.prog glob 31 [(slc 1 row_i64 a0)] [] (R_cmp_Or_int r) := by
  refine ACall.body Tryd.func31 rfl (by kernel_rfl) ?_
  unfold F_cmp_Or_int at hF
  refine AWP.seq ?_
  refine AWP.rg0 [] [(0, (slc 1 row_i64 a0))] ?_
  refine AWP.seq ?_
  refine AWP.rg0 [] [(0, (slc 1 row_i64 a0)), (3, (i64 (0:Int)))] ?_
  refine AWP.seq ?_
  refine AWP.seq ?_
  refine AWP.rg0 [(1, .len row_i64 a0)] [(3, (i64 (0:Int))), (6, (slc 1 row_i64 a0)), (7, (i64 (List.length a0 : Int))), (8, (i64 (0:Int)))] ?_
  obtain ⟨o6, h7, hF⟩ := bindb hF
  refine AWP.mid (fun e st H => (e = .normal ∧ o6 = (.inl ()) ∧ st = [(3, (i64 (0:Int)))] ∧ H = []) ∨ (e = .ret ∧ ∃ (r : Int), o6 = (.inr r) ∧ Q_cmp_Or_int r e st H)) ?_ ?_
  · clear hF
    refine AWP.kp [3, 6, 7, 8] 0 ?_
    refine AWP.bround (fun n st H => ∃ (v1 : Int), F_cmp_Or_int_L1 a0 n v1 = some o6 ∧ st = [(3, (i64 (0:Int))), (6, (slc 1 row_i64 a0)), (7, (i64 (List.length a0 : Int))), (8, (i64 v1))] ∧ H = []) fuel ⟨(0:Int), h7, by kernel_rfl, by kernel_rfl⟩ ?_
    rintro n8 st H ⟨v1, hF, rfl, rfl⟩
    cases n8 with
    | zero => exact noneb hF
    | succ n8 =>
      rw [F_cmp_Or_int_L1] at hF
      refine AWP.seq ?_
      refine AWP.rg0 [] [(3, (i64 (0:Int))), (6, (slc 1 row_i64 a0)), (7, (i64 (List.length a0 : Int))), (8, (i64 v1)), (9, (vb (decide (v1 < (List.length a0 : Int)))))] ?_
      refine AWP.seq ?_
      refine AWP.cif hF (fun h12 hF => ?_) (fun h12 hF => ?_)
      · refine AWP.skip ?_
        refine AWP.seq ?_
        refine AWP.block ?_
        refine AWP.seq ?_
        obtain ⟨x9, h10, hF⟩ := bindb hF
        refine AWP.rg0 [(0, .idx row_i64 h10)] [(3, (i64 (0:Int))), (5, (i64 x9)), (6, (slc 1 row_i64 a0)), (7, (i64 (List.length a0 : Int))), (8, (i64 v1))] ?_
        refine AWP.seq ?_
        refine AWP.rg0 [] [(3, (i64 (0:Int))), (5, (i64 x9)), (6, (slc 1 row_i64 a0)), (7, (i64 (List.length a0 : Int))), (8, (i64 v1)), (14, (vb (x9 != (0:Int))))] ?_
        refine AWP.cif hF (fun h11 hF => ?_) (fun h11 hF => ?_)
        · refine AWP.seq ?_
          refine AWP.rg0 [] [(2, (i64 x9))] ?_
          refine AWP.ret ?_
          exact LeQ.of (.inr ⟨rfl, x9, (someb hF).symm, (FnQ.f0 0 (.inr rfl))⟩)
        · refine AWP.skip ?_
          refine AWP.rg0 [] [(3, (i64 (0:Int))), (6, (slc 1 row_i64 a0)), (7, (i64 (List.length a0 : Int))), (8, (i64 (IntKind.wrap .i64 (v1 + (1:Int)))))] ?_
          refine LeQ.start ?_
          refine LeQ.pk [3, 6, 7, 8] 0 ?_
          exact ⟨n8, Nat.lt_succ_self _, (IntKind.wrap .i64 (v1 + (1:Int))), hF, by kernel_rfl, by kernel_rfl⟩
      · refine AWP.exit ?_
        refine LeQ.start ?_
        refine LeQ.pk [3] 0 ?_
        exact (.inl ⟨rfl, (someb hF).symm, by kernel_rfl, by kernel_rfl⟩)
  · rintro _ _ _ (⟨rfl, rfl, rfl, rfl⟩ | ⟨rfl, r13, rfl, hq⟩)
    · refine AWP.seq ?_
      refine AWP.rg0 [] [(2, (i64 (0:Int)))] ?_
      refine AWP.ret ?_
      have hr := someb hF
      subst hr
      exact (FnQ.f0 0 (.inr rfl))
    · have hr := someb hF
      subst hr
      exact hq
def R_cardinal_Compare (r : Int) : PV → List Blk → Prop := fun p K => p = (i64 r) ∧ K = []
abbrev Q_cardinal_Compare (r : Int) : Exit → St → List Blk → Prop := FnQ Tryd.prog Tryd.f9.results 0 (R_cardinal_Compare r)
theorem K_cardinal_Compare (a0 : api_Count) (a1 : api_Count) (r : Int) (hF : F_cardinal_Compare a0 a1 = some r) : ACall Tryd.prog glob 9 [(pv_api_Count a0), (pv_api_Count a1)] [] (R_cardinal_Compare r) := by
  refine ACall.body Tryd.func9 rfl (by kernel_rfl) ?_
  unfold F_cardinal_Compare at hF
  refine AWP.seq ?_
  refine AWP.rg [] [(2, (.ptr 0 0)), (3, (.ptr 1 0))] [.cells (row_api_Count a0), .cells (row_api_Count a1)] ?_
  refine AWP.seq ?_
  obtain ⟨r1, h2, hF⟩ := bindb hF
  obtain ⟨r3, h4, hF⟩ := bindb hF
  obtain ⟨r5, h6, hF⟩ := bindb hF
  refine AWP.dr [(4, .call Tryd.func32 [] (K_cmp_Compare_uint64 a0.Hi a1.Hi r1 h2)), (9, .call Tryd.func32 [] (K_cmp_Compare_uint64 a0.Lo a1.Lo r3 h4)), (11, .call Tryd.func31 [] (K_cmp_Or_int [r1, r3] r5 h6))] 12 [] [] [] [(4, (i64 r5))] [.cells (row_api_Count a0), .cells (row_api_Count a1)] ?_
  refine AWP.ret ?_
  have hr := someb hF
  subst hr
  exact (FnQ.f0 0 (.inr rfl))
def R_nsglaw5_CardinalLaws (r : Bool) : PV → List Blk → Prop := fun p K => p = (vb r) ∧ K = []
abbrev Q_nsglaw5_CardinalLaws (r : Bool) : Exit → St → List Blk → Prop := FnQ Tryd.prog Tryd.f3.results 0 (R_nsglaw5_CardinalLaws r)
theorem K_nsglaw5_CardinalLaws (a0 : api_Count) (a1 : api_Count) (a2 : api_Count) (r : Bool) (hF : F_nsglaw5_CardinalLaws a0 a1 a2 = some r) : ACall Tryd.prog glob 3 [(pv_api_Count a0), (pv_api_Count a1), (pv_api_Count a2)] [] (R_nsglaw5_CardinalLaws r) := by
  refine ACall.body Tryd.func3 rfl (by kernel_rfl) ?_
  unfold F_nsglaw5_CardinalLaws at hF
  refine AWP.seq ?_
  refine AWP.rg [] [(3, (.ptr 0 0)), (4, (.ptr 1 0)), (5, (.ptr 2 0))] [.cells (row_api_Count a0), .cells (row_api_Count a1), .cells (row_api_Count a2)] ?_
  refine AWP.seq ?_
  refine AWP.seq ?_
  obtain ⟨r1, h2, hF⟩ := bindb hF
  obtain ⟨r3, h4, hF⟩ := bindb hF
  obtain ⟨b5, h6, hF⟩ := bindb hF
  replace h6 := someb h6
  obtain ⟨v15, h16, hF⟩ := bindb hF
  obtain ⟨b17, h18, hF⟩ := bindb hF
  replace h18 := someb h18
  obtain ⟨v21, h22, hF⟩ := bindb hF
  refine AWP.to [(3, (.ptr 0 0)), (4, (.ptr 1 0)), (5, (.ptr 2 0)), (35, (vb v21))] [.cells (row_api_Count a0), .cells (row_api_Count a1), .cells (row_api_Count a2)] ?_ ?_
  · cases b5 with
    | false =>
      have h23 := ifF h16 rfl
      obtain ⟨r7, h8, h23⟩ := bindb h23
      obtain ⟨r9, h10, h23⟩ := bindb h23
      obtain ⟨r11, h12, h23⟩ := bindb h23
      obtain ⟨r13, h14, h23⟩ := bindb h23
      replace h23 := someb h23
      subst h23
      cases b17 with
      | false =>
        have h24 := ifF h22 rfl
        obtain ⟨r19, h20, h24⟩ := bindb h24
        replace h24 := someb h24
        subst h24
        exact AWP.drT [(2, .call Tryd.func8 [] (K_cardinal_Add a0 a1 r1 h2)), (5, .call Tryd.func8 [] (K_cardinal_Add a1 a0 r3 h4)), (7, .bool h6), (10, .call Tryd.func8 [] (K_cardinal_Add a0 a1 r7 h8)), (12, .call Tryd.func8 [] (K_cardinal_Add r7 a2 r9 h10)), (16, .call Tryd.func8 [] (K_cardinal_Add a1 a2 r11 h12)), (17, .call Tryd.func8 [] (K_cardinal_Add a0 r11 r13 h14)), (20, .bool h18), (23, .call Tryd.func8 [] (K_cardinal_Add a0 (api_Count.mk (0:Int) (0:Int)) r19 h20))] 27 [] [] []
      | true =>
        have h25 := someb (ifT h22 rfl)
        subst h25
        exact AWP.drT [(2, .call Tryd.func8 [] (K_cardinal_Add a0 a1 r1 h2)), (5, .call Tryd.func8 [] (K_cardinal_Add a1 a0 r3 h4)), (7, .bool h6), (10, .call Tryd.func8 [] (K_cardinal_Add a0 a1 r7 h8)), (12, .call Tryd.func8 [] (K_cardinal_Add r7 a2 r9 h10)), (16, .call Tryd.func8 [] (K_cardinal_Add a1 a2 r11 h12)), (17, .call Tryd.func8 [] (K_cardinal_Add a0 r11 r13 h14)), (20, .bool h18)] 27 [] [] []
    | true =>
      have h26 := someb (ifT h16 rfl)
      subst h26
      subst h18
      have h27 := someb (ifT h22 rfl)
      subst h27
      exact AWP.drT [(2, .call Tryd.func8 [] (K_cardinal_Add a0 a1 r1 h2)), (5, .call Tryd.func8 [] (K_cardinal_Add a1 a0 r3 h4)), (7, .bool h6)] 27 [] [] []
  refine AWP.cif hF (fun h56 hF => ?_) (fun h56 hF => ?_)
  · refine AWP.seq ?_
    refine AWP.rg0 [] [(6, (vb false))] ?_
    refine AWP.ret ?_
    have hr := someb hF
    subst hr
    exact (FnQ.f0 0 (.inr rfl))
  · refine AWP.skip ?_
    refine AWP.seq ?_
    refine AWP.dr [] 8 [] [7] [] [(3, (.ptr 0 0)), (4, (.ptr 1 0)), (5, (.ptr 2 0))] [.cells (row_api_Count ({ a0 with Hi := (bShr .u64 a0.Hi (1:Int)) } : api_Count)), .cells (row_api_Count ({ a1 with Hi := (bShr .u64 a1.Hi (1:Int)) } : api_Count)), .cells (row_api_Count a2)] ?_
    refine AWP.seq ?_
    obtain ⟨r28, h29, hF⟩ := bindb hF
    refine AWP.rg [(2, .call Tryd.func8 [] (K_cardinal_Add ({ a0 with Hi := (bShr .u64 a0.Hi (1:Int)) } : api_Count) ({ a1 with Hi := (bShr .u64 a1.Hi (1:Int)) } : api_Count) r28 h29))] [(3, (.ptr 0 0)), (4, (.ptr 1 0)), (5, (.ptr 2 0)), (7, (.ptr 3 0))] [.cells (row_api_Count ({ a0 with Hi := (bShr .u64 a0.Hi (1:Int)) } : api_Count)), .cells (row_api_Count ({ a1 with Hi := (bShr .u64 a1.Hi (1:Int)) } : api_Count)), .cells (row_api_Count a2), .cells (row_api_Count r28)] ?_
    refine AWP.seq ?_
    refine AWP.seq ?_
    obtain ⟨r30, h31, hF⟩ := bindb hF
    obtain ⟨b32, h33, hF⟩ := bindb hF
    replace h33 := someb h33
    obtain ⟨v36, h37, hF⟩ := bindb hF
    refine AWP.to [(3, (.ptr 0 0)), (5, (.ptr 2 0)), (56, (vb v36))] [.cells (row_api_Count ({ a0 with Hi := (bShr .u64 a0.Hi (1:Int)) } : api_Count)), .cells (row_api_Count ({ a1 with Hi := (bShr .u64 a1.Hi (1:Int)) } : api_Count)), .cells (row_api_Count a2), .cells (row_api_Count r28)] ?_ ?_
    · cases b32 with
      | false =>
        have h38 := ifF h37 rfl
        obtain ⟨r34, h35, h38⟩ := bindb h38
        replace h38 := someb h38
        subst h38
        exact AWP.rgT [(2, .call Tryd.func9 [] (K_cardinal_Compare r28 ({ a0 with Hi := (bShr .u64 a0.Hi (1:Int)) } : api_Count) r30 h31)), (4, .bool h33), (7, .call Tryd.func9 [] (K_cardinal_Compare r28 ({ a1 with Hi := (bShr .u64 a1.Hi (1:Int)) } : api_Count) r34 h35))]
      | true =>
        have h39 := someb (ifT h37 rfl)
        subst h39
        exact AWP.rgT [(2, .call Tryd.func9 [] (K_cardinal_Compare r28 ({ a0 with Hi := (bShr .u64 a0.Hi (1:Int)) } : api_Count) r30 h31)), (4, .bool h33)]
    refine AWP.cif hF (fun h55 hF => ?_) (fun h55 hF => ?_)
    · refine AWP.seq ?_
      refine AWP.rg0 [] [(6, (vb false))] ?_
      refine AWP.ret ?_
      have hr := someb hF
      subst hr
      exact (FnQ.f0 0 (.inr rfl))
    · refine AWP.skip ?_
      refine AWP.seq ?_
      obtain ⟨r40, h41, hF⟩ := bindb hF
      refine AWP.rg0 [(2, .call Tryd.func9 [] (K_cardinal_Compare ({ a0 with Hi := (bShr .u64 a0.Hi (1:Int)) } : api_Count) a2 r40 h41))] [(3, (.ptr 0 0)), (5, (.ptr 2 0)), (8, (i64 r40))] ?_
      refine AWP.seq ?_
      obtain ⟨r42, h43, hF⟩ := bindb hF
      obtain ⟨b44, h45, hF⟩ := bindb hF
      replace h45 := someb h45
      obtain ⟨b46, h47, hF⟩ := bindb hF
      replace h47 := someb h47
      obtain ⟨v50, h51, hF⟩ := bindb hF
      refine AWP.to [(6, (vb v50))] [.cells (row_api_Count ({ a0 with Hi := (bShr .u64 a0.Hi (1:Int)) } : api_Count)), .cells (row_api_Count ({ a1 with Hi := (bShr .u64 a1.Hi (1:Int)) } : api_Count)), .cells (row_api_Count a2), .cells (row_api_Count r28)] ?_ ?_
      · cases b44 with
        | false =>
          subst h47
          have h52 := someb (ifF h51 rfl)
          subst h52
          exact AWP.rgT [(3, .call Tryd.func9 [] (K_cardinal_Compare a2 ({ a0 with Hi := (bShr .u64 a0.Hi (1:Int)) } : api_Count) r42 h43)), (6, .bool h45)]
        | true =>
          cases b46 with
          | false =>
            have h53 := someb (ifF h51 rfl)
            subst h53
            exact AWP.rgT [(3, .call Tryd.func9 [] (K_cardinal_Compare a2 ({ a0 with Hi := (bShr .u64 a0.Hi (1:Int)) } : api_Count) r42 h43)), (6, .bool h45), (14, .bool h47)]
          | true =>
            have h54 := ifT h51 rfl
            obtain ⟨r48, h49, h54⟩ := bindb h54
            replace h54 := someb h54
            subst h54
            exact AWP.rgT [(3, .call Tryd.func9 [] (K_cardinal_Compare a2 ({ a0 with Hi := (bShr .u64 a0.Hi (1:Int)) } : api_Count) r42 h43)), (6, .bool h45), (14, .bool h47), (15, .call Tryd.func10 [] (K_nsglaw5_sane r48 h49))]
      refine AWP.ret ?_
      have hr := someb hF
      subst hr
      exact (FnQ.f0 0 (.inr rfl))
end Go.AM

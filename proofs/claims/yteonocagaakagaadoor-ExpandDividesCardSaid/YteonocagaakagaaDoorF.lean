/- Printed by gen.py: what the functions compute. -/
import Derived.Test.YteonocagaakagaaDoorTy
set_option maxRecDepth 100000
namespace Go.AM
open Go
def F_nsggen_New (a0 : (List Int)) : Option nsggen_Tape :=
  some (nsggen_Tape.mk a0 (0:Int))
def F_nsggen_Mod (a0 : Int) (a1 : Int) : Option Int :=
  if (IntKind.wrap .u64 a1) ≠ 0 then
  some (IntKind.wrap .i64 (Int.tmod (IntKind.wrap .u64 a0) (IntKind.wrap .u64 a1)))
  else none
def F_nsggen_Tape_Next (a0 : nsggen_Tape) (a1 : Int) : Option (Int × nsggen_Tape) :=
  (some (decide (a1 ≤ (1:Int)))).bind fun (b1 : Bool) =>
  if (b1 || (decide (a0.f_i ≥ (List.length a0.f_l : Int)))) = true then
    some ((0:Int), a0)
  else
    (idx a0.f_l (IntKind.wrap .i64 ((IntKind.wrap .i64 (a0.f_i + (1:Int))) - (1:Int)))).bind fun (x3 : Int) =>
    (F_nsggen_Mod x3 a1).bind fun (r5 : Int) =>
    some (r5, ({ a0 with f_i := (IntKind.wrap .i64 (a0.f_i + (1:Int))) } : nsggen_Tape))
def F_nsgref3_Top (a0 : Int) : Option Int :=
  ((if (a0 == (0:Int)) = true then
    some (a0 == (0:Int))
  else
    some (a0 == (1:Int))).bind fun (v15 : Bool) =>
    if v15 = true then
      some (.inr (4294967295:Int))
    else
      if (a0 == (2:Int)) = true then
        some (.inr (255:Int))
      else
        (if (a0 == (3:Int)) = true then
          some (a0 == (3:Int))
        else
          some (a0 == (4:Int))).bind fun (v19 : Bool) =>
          if v19 = true then
            some (.inr (65535:Int))
          else
            some (.inl ())).bind fun (o12 : (Unit ⊕ Int)) =>
  match o12 with
  | .inl () =>
      some (0:Int)
  | .inr r25 =>
      some r25
def F_nsgref3_Full_L1 : Nat → (Arr5 api_Range) → Int → Option (Arr5 api_Range)
  | 0, _, _ => none
  | n16+1, v7, v8 =>
    if (decide (v8 < (5:Int))) = true then
      (F_nsgref3_Top v8).bind fun (r17 : Int) =>
      if 0 ≤ v8 ∧ v8 < 5 then
      F_nsgref3_Full_L1 n16 (Arr5.set v7 v8 ({ (Arr5.get v7 v8) with Hi := r17 } : api_Range)) (IntKind.wrap .i64 (v8 + (1:Int)))
      else none
    else
      some v7
def F_nsgref3_Full : Option (Arr5 api_Range) :=
  (F_nsgref3_Full_L1 fuel z_a5_api_Range (0:Int)).bind fun (v14 : (Arr5 api_Range)) =>
    some v14
def F_nsgref1_size (a0 : Int) : Option Int :=
  if 0 ≤ (IntKind.wrap .u64 (IntKind.wrap .i64 ((32:Int) - a0))) then
  some (bShl .u64 (1:Int) (IntKind.wrap .u64 (IntKind.wrap .i64 ((32:Int) - a0))))
  else none
def F_nsgref1_Valid (a0 : api_Prefix) : Option Bool :=
  (some (decide (a0.Bits ≥ (0:Int)))).bind fun (b1 : Bool) =>
  (some (b1 && (decide (a0.Bits ≤ (32:Int))))).bind fun (b3 : Bool) =>
  (if b3 = true then
    (F_nsgref1_size a0.Bits).bind fun (r5 : Int) =>
    if r5 ≠ 0 then
    some ((Int.tmod (IntKind.wrap .u64 a0.Addr) r5) == (0:Int))
    else none
   else some false).bind fun (v8 : Bool) =>
  some v8
def F_nsgref1_Of (a0 : api_Prefix) : Option (api_Range × Bool) :=
  (F_nsgref1_Valid a0).bind fun (r1 : Bool) =>
  if (!r1) = true then
    some ((api_Range.mk (0:Int) (0:Int)), false)
  else
    (F_nsgref1_size a0.Bits).bind fun (r3 : Int) =>
    some ((api_Range.mk a0.Addr (IntKind.wrap .u32 (IntKind.wrap .u64 ((IntKind.wrap .u64 ((IntKind.wrap .u64 a0.Addr) + r3)) - (1:Int))))), true)
def F_nsggen_Subnet (a0 : Int) : Option api_Prefix :=
  (F_nsggen_Mod a0 (6:Int)).bind fun (r1 : Int) =>
  (idx [(api_Prefix.mk (167772160:Int) (24:Int)), (api_Prefix.mk (167772416:Int) (24:Int)), (api_Prefix.mk (167772672:Int) (25:Int)), (api_Prefix.mk (167772800:Int) (26:Int)), (api_Prefix.mk (2886729728:Int) (16:Int)), (api_Prefix.mk (3232237321:Int) (32:Int))] r1).bind fun (x3 : api_Prefix) =>
  some x3
def F_nsggen_Tape_Addr (a0 : nsggen_Tape) : Option (Int × nsggen_Tape) :=
  (F_nsggen_Tape_Next a0 (5:Int)).bind fun (r1 : (Int × nsggen_Tape)) =>
  if (r1.1 == (4:Int)) = true then
    (F_nsggen_Tape_Next r1.2 (6:Int)).bind fun (r3 : (Int × nsggen_Tape)) =>
    (idx [(0:Int), (4294967295:Int), (3405803781:Int), (3325256705:Int), (168296448:Int), (2130706433:Int)] r3.1).bind fun (x5 : Int) =>
    some (x5, r3.2)
  else
    (F_nsggen_Tape_Next r1.2 (6:Int)).bind fun (r7 : (Int × nsggen_Tape)) =>
    (F_nsggen_Subnet r7.1).bind fun (r9 : api_Prefix) =>
    (F_nsgref1_Of r9).bind fun (r11 : (api_Range × Bool)) =>
    (F_nsggen_Tape_Next r7.2 (5:Int)).bind fun (r13 : (Int × nsggen_Tape)) =>
    (idx [r11.1.Lo, r11.1.Hi, (IntKind.wrap .u32 (r11.1.Lo + (5:Int))), (IntKind.wrap .u32 (r11.1.Hi + (1:Int))), (IntKind.wrap .u32 (r11.1.Lo - (1:Int)))] r13.1).bind fun (x15 : Int) =>
    some (x15, r13.2)
def F_nsggen_Tape_addresses (a0 : nsggen_Tape) : Option (api_Range × nsggen_Tape) :=
  (F_nsggen_Tape_Next a0 (4:Int)).bind fun (r1 : (Int × nsggen_Tape)) =>
  if (r1.1 == (0:Int)) = true then
    (F_nsggen_Tape_Next r1.2 (6:Int)).bind fun (r3 : (Int × nsggen_Tape)) =>
    (F_nsggen_Subnet r3.1).bind fun (r5 : api_Prefix) =>
    (F_nsgref1_Of r5).bind fun (r7 : (api_Range × Bool)) =>
    some (r7.1, r3.2)
  else
    if (r1.1 == (1:Int)) = true then
      (F_nsggen_Tape_Addr r1.2).bind fun (r9 : (Int × nsggen_Tape)) =>
      (F_nsggen_Tape_Addr r9.2).bind fun (r11 : (Int × nsggen_Tape)) =>
      some ((api_Range.mk (iMin r9.1 r11.1) (iMax r9.1 r11.1)), r11.2)
    else
      if (r1.1 == (2:Int)) = true then
        (F_nsggen_Tape_Addr r1.2).bind fun (r13 : (Int × nsggen_Tape)) =>
        some ((api_Range.mk r13.1 r13.1), r13.2)
      else
        some ((api_Range.mk (0:Int) (4294967295:Int)), r1.2)
def F_nsggen_Tape_Number (a0 : nsggen_Tape) (a1 : Int) : Option (Int × nsggen_Tape) :=
  (F_nsggen_Tape_Next a0 (17:Int)).bind fun (r1 : (Int × nsggen_Tape)) =>
  (idx [(0:Int), (1:Int), (2:Int), (5:Int), (7:Int), (8:Int), (9:Int), (15:Int), (16:Int), (80:Int), (255:Int), (256:Int), (1024:Int), (65535:Int), (IntKind.wrap .u32 (Int.tdiv a1 (2:Int))), (IntKind.wrap .u32 (a1 - (1:Int))), a1] r1.1).bind fun (x3 : Int) =>
  some ((iMin x3 a1), r1.2)
def F_nsggen_Tape_Range (a0 : nsggen_Tape) (a1 : Int) : Option (api_Range × nsggen_Tape) :=
  (F_nsggen_Tape_Number a0 a1).bind fun (r1 : (Int × nsggen_Tape)) =>
  (F_nsggen_Tape_Number r1.2 a1).bind fun (r3 : (Int × nsggen_Tape)) =>
  some ((api_Range.mk (iMin r1.1 r3.1) (iMax r1.1 r3.1)), r3.2)
def F_nsggen_Tape_Box_L1 : Nat → nsggen_Tape → (Arr5 api_Range) → Int → Option (nsggen_Tape × (Arr5 api_Range))
  | 0, _, _, _ => none
  | n95+1, v47, v48, v49 =>
    if (decide (v49 > (0:Int))) = true then
      ((F_nsggen_Tape_Next v47 (5:Int)).bind fun (r118 : (Int × nsggen_Tape)) =>
      if (r118.1 == (0:Int)) = true then
        (F_nsggen_Tape_addresses r118.2).bind fun (r120 : (api_Range × nsggen_Tape)) =>
        some (r120.2, ({ v48 with x0 := r120.1 } : (Arr5 api_Range)))
      else
        if (r118.1 == (1:Int)) = true then
          (F_nsggen_Tape_addresses r118.2).bind fun (r122 : (api_Range × nsggen_Tape)) =>
          some (r122.2, ({ v48 with x1 := r122.1 } : (Arr5 api_Range)))
        else
          if (r118.1 == (2:Int)) = true then
            (F_nsggen_Tape_Next r118.2 (6:Int)).bind fun (r124 : (Int × nsggen_Tape)) =>
            (idx [(6:Int), (17:Int), (1:Int), (0:Int), (7:Int), (255:Int)] r124.1).bind fun (x126 : Int) =>
            some (r124.2, ({ v48 with x2 := (api_Range.mk x126 x126) } : (Arr5 api_Range)))
          else
            if (r118.1 == (3:Int)) = true then
              (F_nsggen_Tape_Range r118.2 (65535:Int)).bind fun (r128 : (api_Range × nsggen_Tape)) =>
              some (r128.2, ({ v48 with x3 := r128.1 } : (Arr5 api_Range)))
            else
              (F_nsggen_Tape_Range r118.2 (65535:Int)).bind fun (r130 : (api_Range × nsggen_Tape)) =>
              some (r130.2, ({ v48 with x4 := r130.1 } : (Arr5 api_Range)))).bind fun (o116 : (nsggen_Tape × (Arr5 api_Range))) =>
      match o116 with
      | (v114, v115) =>
        F_nsggen_Tape_Box_L1 n95 v114 v115 (IntKind.wrap .i64 (v49 - (1:Int)))
    else
      some (v47, v48)
def F_nsggen_Tape_Box (a0 : nsggen_Tape) : Option ((Arr5 api_Range) × nsggen_Tape) :=
  (F_nsgref3_Full).bind fun (r1 : (Arr5 api_Range)) =>
  (F_nsggen_Tape_Next a0 (3:Int)).bind fun (r3 : (Int × nsggen_Tape)) =>
  (F_nsggen_Tape_Box_L1 fuel r3.2 r1 (IntKind.wrap .i64 ((1:Int) + r3.1))).bind fun (o93 : (nsggen_Tape × (Arr5 api_Range))) =>
  match o93 with
  | (v91, v92) =>
    some (v92, v91)
def F_box_Valid_L1 (a0 : (Arr5 api_Range)) : Nat → Int → Option (Unit ⊕ Bool)
  | 0, _ => none
  | n16+1, v1 =>
    if (decide (v1 < (5:Int))) = true then
      if 0 ≤ v1 ∧ v1 < 5 then
      (some (decide ((Arr5.get a0 v1).Lo > (Arr5.get a0 v1).Hi))).bind fun (b19 : Bool) =>
      (if b19 = true then some true else
        if 0 ≤ v1 ∧ v1 < 5 then
        some (decide ((Arr5.get a0 v1).Hi > (Arr5.get glob_box_tops v1)))
        else none
       ).bind fun (v22 : Bool) =>
      if v22 = true then
        some (.inr false)
      else
        F_box_Valid_L1 a0 n16 (IntKind.wrap .i64 (v1 + (1:Int)))
      else none
    else
      some (.inl ())
def F_box_Valid (a0 : (Arr5 api_Range)) : Option Bool :=
  (F_box_Valid_L1 a0 fuel (0:Int)).bind fun (o14 : (Unit ⊕ Bool)) =>
  match o14 with
  | .inl () =>
      some true
  | .inr r29 =>
      some r29
def F_prefix_Blocks_L2 (a0 : api_Range) (v31 : Int) : Nat → Int → Option Int
  | 0, _ => none
  | n58+1, v51 =>
    if v51 ≠ 0 then
    (some ((Int.tmod v31 v51) != (0:Int))).bind fun (b60 : Bool) =>
    if (b60 || (decide (v51 > (IntKind.wrap .u64 ((IntKind.wrap .u64 ((IntKind.wrap .u64 a0.Hi) + (1:Int))) - v31))))) = true then
      F_prefix_Blocks_L2 a0 v31 n58 (IntKind.wrap .u64 (Int.tdiv v51 (2:Int)))
    else
      some v51
    else none
def F_prefix_Blocks_L1 (a0 : api_Range) (a1 : Int) : Nat → (List api_Range) → Int → Option (List api_Range)
  | 0, _, _ => none
  | n49+1, v30, v31 =>
    if (decide (v31 < (IntKind.wrap .u64 ((IntKind.wrap .u64 a0.Hi) + (1:Int))))) = true then
      if 0 ≤ (IntKind.wrap .u64 a1) then
      (F_prefix_Blocks_L2 a0 v31 fuel (bShl .u64 (1:Int) (IntKind.wrap .u64 a1))).bind fun (v56 : Int) =>
        if List.length v30 + List.length [(api_Range.mk (IntKind.wrap .u32 v31) (IntKind.wrap .u32 (IntKind.wrap .u64 ((IntKind.wrap .u64 (v31 + v56)) - (1:Int)))))] ≤ lim then
        F_prefix_Blocks_L1 a0 a1 n49 (v30 ++ [(api_Range.mk (IntKind.wrap .u32 v31) (IntKind.wrap .u32 (IntKind.wrap .u64 ((IntKind.wrap .u64 (v31 + v56)) - (1:Int)))))]) (IntKind.wrap .u64 (v31 + v56))
        else none
      else none
    else
      some v30
def F_prefix_Blocks (a0 : api_Range) (a1 : Int) : Option (List api_Range) :=
  (some (decide (a1 < (0:Int)))).bind fun (b1 : Bool) =>
  (some (b1 || (decide (a1 > (32:Int))))).bind fun (b3 : Bool) =>
  (some (b3 || (decide (a0.Lo > a0.Hi)))).bind fun (b5 : Bool) =>
  (if b5 = true then some true else
    if 0 ≤ (IntKind.wrap .u64 a1) then
    some (decide ((IntKind.wrap .u64 a0.Hi) ≥ (bShl .u64 (1:Int) (IntKind.wrap .u64 a1))))
    else none
   ).bind fun (v8 : Bool) =>
  if v8 = true then
    some ([] : (List api_Range))
  else
    (F_prefix_Blocks_L1 a0 a1 fuel ([] : (List api_Range)) (IntKind.wrap .u64 a0.Lo)).bind fun (v47 : (List api_Range)) =>
      some v47
def F_expand_blocks_L1 (a0 : (Arr5 api_Range)) : Nat → (Arr5 (List api_Range)) → Int → Option (Arr5 (List api_Range))
  | 0, _, _ => none
  | n22+1, v10, v11 =>
    if (decide (v11 < (5:Int))) = true then
      if 0 ≤ v11 ∧ v11 < 5 then
      if 0 ≤ v11 ∧ v11 < 5 then
      (F_prefix_Blocks (Arr5.get a0 v11) (Arr5.get glob_expand_widths v11)).bind fun (r26 : (List api_Range)) =>
      if 0 ≤ v11 ∧ v11 < 5 then
      F_expand_blocks_L1 a0 n22 (Arr5.set v10 v11 r26) (IntKind.wrap .i64 (v11 + (1:Int)))
      else none
      else none
      else none
    else
      some v10
def F_expand_blocks (a0 : (Arr5 api_Range)) : Option (Arr5 (List api_Range)) :=
  (F_expand_blocks_L1 a0 fuel z_a5_s_api_Range (0:Int)).bind fun (v20 : (Arr5 (List api_Range))) =>
    some v20
def F_expand_Cost_L1 (r3 : (Arr5 (List api_Range))) : Nat → Int → Int → Option Int
  | 0, _, _ => none
  | n12+1, v5, v6 =>
    if (decide (v6 < (5:Int))) = true then
      if 0 ≤ v6 ∧ v6 < 5 then
      F_expand_Cost_L1 r3 n12 (IntKind.wrap .i64 (v5 * (List.length (Arr5.get r3 v6) : Int))) (IntKind.wrap .i64 (v6 + (1:Int)))
      else none
    else
      some v5
def F_expand_Cost (a0 : (Arr5 api_Range)) (a1 : Bool) : Option Int :=
  (F_box_Valid a0).bind fun (r1 : Bool) =>
  if (!r1) = true then
    some (0:Int)
  else
    if a1 = true then
      some (1:Int)
    else
      (F_expand_blocks a0).bind fun (r3 : (Arr5 (List api_Range))) =>
      (F_expand_Cost_L1 r3 fuel (1:Int) (0:Int)).bind fun (v10 : Int) =>
        some v10
def F_expand_Entries_L5 (r5 : (Arr5 (List api_Range))) (x1381 : api_Range) (x1839 : api_Range) (x1991 : api_Range) (x2041 : api_Range) : Nat → (List (Arr5 api_Range)) → Int → Option (List (Arr5 api_Range))
  | 0, _, _ => none
  | n2056+1, v2048, v2049 =>
    if (decide (v2049 < (List.length r5.x4 : Int))) = true then
      (idx r5.x4 v2049).bind fun (x2057 : api_Range) =>
      if List.length v2048 + List.length [(Arr5.mk x1381 x1839 x1991 x2041 x2057)] ≤ lim then
      F_expand_Entries_L5 r5 x1381 x1839 x1991 x2041 n2056 (v2048 ++ [(Arr5.mk x1381 x1839 x1991 x2041 x2057)]) (IntKind.wrap .i64 (v2049 + (1:Int)))
      else none
    else
      some v2048
def F_expand_Entries_L4 (r5 : (Arr5 (List api_Range))) (x1381 : api_Range) (x1839 : api_Range) (x1991 : api_Range) : Nat → (List (Arr5 api_Range)) → Int → Option (List (Arr5 api_Range))
  | 0, _, _ => none
  | n2040+1, v2015, v2016 =>
    if (decide (v2016 < (List.length r5.x3 : Int))) = true then
      (idx r5.x3 v2016).bind fun (x2041 : api_Range) =>
      (F_expand_Entries_L5 r5 x1381 x1839 x1991 x2041 fuel v2015 (0:Int)).bind fun (v2054 : (List (Arr5 api_Range))) =>
        F_expand_Entries_L4 r5 x1381 x1839 x1991 n2040 v2054 (IntKind.wrap .i64 (v2016 + (1:Int)))
    else
      some v2015
def F_expand_Entries_L3 (r5 : (Arr5 (List api_Range))) (x1381 : api_Range) (x1839 : api_Range) : Nat → (List (Arr5 api_Range)) → Int → Option (List (Arr5 api_Range))
  | 0, _, _ => none
  | n1990+1, v1914, v1915 =>
    if (decide (v1915 < (List.length r5.x2 : Int))) = true then
      (idx r5.x2 v1915).bind fun (x1991 : api_Range) =>
      (F_expand_Entries_L4 r5 x1381 x1839 x1991 fuel v1914 (0:Int)).bind fun (v2038 : (List (Arr5 api_Range))) =>
        F_expand_Entries_L3 r5 x1381 x1839 n1990 v2038 (IntKind.wrap .i64 (v1915 + (1:Int)))
    else
      some v1914
def F_expand_Entries_L2 (r5 : (Arr5 (List api_Range))) (x1381 : api_Range) : Nat → (List (Arr5 api_Range)) → Int → Option (List (Arr5 api_Range))
  | 0, _, _ => none
  | n1838+1, v1609, v1610 =>
    if (decide (v1610 < (List.length r5.x1 : Int))) = true then
      (idx r5.x1 v1610).bind fun (x1839 : api_Range) =>
      (F_expand_Entries_L3 r5 x1381 x1839 fuel v1609 (0:Int)).bind fun (v1988 : (List (Arr5 api_Range))) =>
        F_expand_Entries_L2 r5 x1381 n1838 v1988 (IntKind.wrap .i64 (v1610 + (1:Int)))
    else
      some v1609
def F_expand_Entries_L1 (r5 : (Arr5 (List api_Range))) : Nat → (List (Arr5 api_Range)) → Int → Option (List (Arr5 api_Range))
  | 0, _, _ => none
  | n1380+1, v692, v693 =>
    if (decide (v693 < (List.length r5.x0 : Int))) = true then
      (idx r5.x0 v693).bind fun (x1381 : api_Range) =>
      (F_expand_Entries_L2 r5 x1381 fuel v692 (0:Int)).bind fun (v1836 : (List (Arr5 api_Range))) =>
        F_expand_Entries_L1 r5 n1380 v1836 (IntKind.wrap .i64 (v693 + (1:Int)))
    else
      some v692
def F_expand_Entries (a0 : (Arr5 api_Range)) : Option ((List (Arr5 api_Range)) × Int) :=
  (F_box_Valid a0).bind fun (r1 : Bool) =>
  if (!r1) = true then
    some (([] : (List (Arr5 api_Range))), (1:Int))
  else
    (F_expand_Cost a0 false).bind fun (r3 : Int) =>
    if (decide (r3 > (4096:Int))) = true then
      some (([] : (List (Arr5 api_Range))), (3:Int))
    else
      (F_expand_blocks a0).bind fun (r5 : (Arr5 (List api_Range))) =>
      (F_expand_Entries_L1 r5 fuel ([] : (List (Arr5 api_Range))) (0:Int)).bind fun (v1378 : (List (Arr5 api_Range))) =>
        some (v1378, (0:Int))
def F_expand_Aligned (a0 : (Arr5 api_Range)) : Option Bool :=
  (F_expand_Cost a0 false).bind fun (r1 : Int) =>
  some (r1 == (1:Int))
def F_nsgref3_Valid_L1 (a0 : (Arr5 api_Range)) : Nat → Int → Option (Unit ⊕ Bool)
  | 0, _ => none
  | n26+1, v1 =>
    if (decide (v1 < (5:Int))) = true then
      if 0 ≤ v1 ∧ v1 < 5 then
      if 0 ≤ v1 ∧ v1 < 5 then
      (some (decide ((Arr5.get a0 v1).Lo > (Arr5.get a0 v1).Hi))).bind fun (b29 : Bool) =>
      (if b29 = true then some true else
        if 0 ≤ v1 ∧ v1 < 5 then
        (F_nsgref3_Top v1).bind fun (r32 : Int) =>
        some (decide ((Arr5.get a0 v1).Hi > r32))
        else none
       ).bind fun (v34 : Bool) =>
      if v34 = true then
        some (.inr false)
      else
        F_nsgref3_Valid_L1 a0 n26 (IntKind.wrap .i64 (v1 + (1:Int)))
      else none
      else none
    else
      some (.inl ())
def F_nsgref3_Valid (a0 : (Arr5 api_Range)) : Option Bool :=
  (F_nsgref3_Valid_L1 a0 fuel (0:Int)).bind fun (o24 : (Unit ⊕ Bool)) =>
  match o24 with
  | .inl () =>
      some true
  | .inr r49 =>
      some r49
def F_nsgref1_Blocks_L2 (a0 : api_Range) (v30 : Int) : Nat → Int → Option Int
  | 0, _ => none
  | n55+1, v48 =>
    if (IntKind.wrap .u64 ((2:Int) * v48)) ≠ 0 then
    (some ((Int.tmod v30 (IntKind.wrap .u64 ((2:Int) * v48))) == (0:Int))).bind fun (b57 : Bool) =>
    if (b57 && (decide ((IntKind.wrap .u64 (v30 + (IntKind.wrap .u64 ((2:Int) * v48)))) ≤ (IntKind.wrap .u64 ((IntKind.wrap .u64 a0.Hi) + (1:Int)))))) = true then
      F_nsgref1_Blocks_L2 a0 v30 n55 (IntKind.wrap .u64 (v48 * (2:Int)))
    else
      some v48
    else none
def F_nsgref1_Blocks_L1 (a0 : api_Range) : Nat → (List api_Range) → Int → Option (List api_Range)
  | 0, _, _ => none
  | n47+1, v29, v30 =>
    if (decide (v30 < (IntKind.wrap .u64 ((IntKind.wrap .u64 a0.Hi) + (1:Int))))) = true then
      (F_nsgref1_Blocks_L2 a0 v30 fuel (1:Int)).bind fun (v53 : Int) =>
        if List.length v29 + List.length [(api_Range.mk (IntKind.wrap .u32 v30) (IntKind.wrap .u32 (IntKind.wrap .u64 ((IntKind.wrap .u64 (v30 + v53)) - (1:Int)))))] ≤ lim then
        F_nsgref1_Blocks_L1 a0 n47 (v29 ++ [(api_Range.mk (IntKind.wrap .u32 v30) (IntKind.wrap .u32 (IntKind.wrap .u64 ((IntKind.wrap .u64 (v30 + v53)) - (1:Int)))))]) (IntKind.wrap .u64 (v30 + v53))
        else none
    else
      some v29
def F_nsgref1_Blocks (a0 : api_Range) (a1 : Int) : Option (List api_Range) :=
  (some (decide (a1 < (0:Int)))).bind fun (b1 : Bool) =>
  (some (b1 || (decide (a1 > (32:Int))))).bind fun (b3 : Bool) =>
  (some (b3 || (decide (a0.Lo > a0.Hi)))).bind fun (b5 : Bool) =>
  (if b5 = true then some true else
    if 0 ≤ (IntKind.wrap .u64 a1) then
    some (decide ((IntKind.wrap .u64 a0.Hi) ≥ (bShl .u64 (1:Int) (IntKind.wrap .u64 a1))))
    else none
   ).bind fun (v8 : Bool) =>
  if v8 = true then
    some ([] : (List api_Range))
  else
    (F_nsgref1_Blocks_L1 a0 fuel ([] : (List api_Range)) (IntKind.wrap .u64 a0.Lo)).bind fun (v45 : (List api_Range)) =>
      some v45
def F_nsgref7_blocks (a0 : (Arr5 api_Range)) (a1 : Int) : Option (List api_Range) :=
  if 0 ≤ a1 ∧ a1 < 5 then
  if 0 ≤ a1 ∧ a1 < 5 then
  (F_nsgref1_Blocks (Arr5.get a0 a1) (Arr5.get (Arr5.mk (32:Int) (32:Int) (8:Int) (16:Int) (16:Int)) a1)).bind fun (r3 : (List api_Range)) =>
  some r3
  else none
  else none
def F_nsgref7_Cost_L1 (a0 : (Arr5 api_Range)) (a1 : Bool) : Nat → Int → Int → Option Int
  | 0, _, _ => none
  | n12+1, v3, v4 =>
    (some (decide (v4 < (5:Int)))).bind fun (b13 : Bool) =>
    if (b13 && (!a1)) = true then
      (F_nsgref7_blocks a0 v4).bind fun (r15 : (List api_Range)) =>
      F_nsgref7_Cost_L1 a0 a1 n12 (IntKind.wrap .i64 (v3 * (List.length r15 : Int))) (IntKind.wrap .i64 (v4 + (1:Int)))
    else
      some v3
def F_nsgref7_Cost (a0 : (Arr5 api_Range)) (a1 : Bool) : Option Int :=
  (F_nsgref3_Valid a0).bind fun (r1 : Bool) =>
  if (!r1) = true then
    some (0:Int)
  else
    (F_nsgref7_Cost_L1 a0 a1 fuel (1:Int) (0:Int)).bind fun (v10 : Int) =>
      some v10
def F_nsgref7_Entries_L3 (v5 : (List (Arr5 api_Range))) (v6 : Int) (r112 : (List api_Range)) (v147 : Int) : Nat → (List (Arr5 api_Range)) → Int → Option (List (Arr5 api_Range))
  | 0, _, _ => none
  | n203+1, v191, v192 =>
    if (decide (v192 < (List.length r112 : Int))) = true then
      (idx v5 v147).bind fun (x204 : (Arr5 api_Range)) =>
      (idx r112 v192).bind fun (x206 : api_Range) =>
      if 0 ≤ v6 ∧ v6 < 5 then
      if List.length v191 + List.length [(Arr5.set x204 v6 x206)] ≤ lim then
      F_nsgref7_Entries_L3 v5 v6 r112 v147 n203 (v191 ++ [(Arr5.set x204 v6 x206)]) (IntKind.wrap .i64 (v192 + (1:Int)))
      else none
      else none
    else
      some v191
def F_nsgref7_Entries_L2 (v5 : (List (Arr5 api_Range))) (v6 : Int) (r112 : (List api_Range)) : Nat → (List (Arr5 api_Range)) → Int → Option (List (Arr5 api_Range))
  | 0, _, _ => none
  | n181+1, v146, v147 =>
    if (decide (v147 < (List.length v5 : Int))) = true then
      (F_nsgref7_Entries_L3 v5 v6 r112 v147 fuel v146 (0:Int)).bind fun (v201 : (List (Arr5 api_Range))) =>
        F_nsgref7_Entries_L2 v5 v6 r112 n181 v201 (IntKind.wrap .i64 (v147 + (1:Int)))
    else
      some v146
def F_nsgref7_Entries_L1 (a0 : (Arr5 api_Range)) : Nat → (List (Arr5 api_Range)) → Int → Option (List (Arr5 api_Range))
  | 0, _, _ => none
  | n111+1, v5, v6 =>
    if (decide (v6 < (5:Int))) = true then
      (F_nsgref7_blocks a0 v6).bind fun (r112 : (List api_Range)) =>
      (F_nsgref7_Entries_L2 v5 v6 r112 fuel ([] : (List (Arr5 api_Range))) (0:Int)).bind fun (v179 : (List (Arr5 api_Range))) =>
        F_nsgref7_Entries_L1 a0 n111 v179 (IntKind.wrap .i64 (v6 + (1:Int)))
    else
      some v5
def F_nsgref7_Entries (a0 : (Arr5 api_Range)) : Option ((List (Arr5 api_Range)) × Int) :=
  (F_nsgref3_Valid a0).bind fun (r1 : Bool) =>
  if (!r1) = true then
    some (([] : (List (Arr5 api_Range))), (1:Int))
  else
    (F_nsgref7_Cost a0 false).bind fun (r3 : Int) =>
    if (decide (r3 > (4096:Int))) = true then
      some (([] : (List (Arr5 api_Range))), (3:Int))
    else
      (F_nsgref7_Entries_L1 a0 fuel [(Arr5.mk z_api_Range z_api_Range z_api_Range z_api_Range z_api_Range)] (0:Int)).bind fun (v109 : (List (Arr5 api_Range))) =>
        some (v109, (0:Int))
def F_nsgref3_Same_L1 (a0 : (List (Arr5 api_Range))) (a1 : (List (Arr5 api_Range))) : Nat → Int → Option (Unit ⊕ Bool)
  | 0, _ => none
  | n10+1, v1 =>
    if (decide (v1 < (List.length a0 : Int))) = true then
      (idx a0 v1).bind fun (x11 : (Arr5 api_Range)) =>
      (idx a1 v1).bind fun (x13 : (Arr5 api_Range)) =>
      if (!(eq_a5_api_Range x11 x13)) = true then
        some (.inr false)
      else
        F_nsgref3_Same_L1 a0 a1 n10 (IntKind.wrap .i64 (v1 + (1:Int)))
    else
      some (.inl ())
def F_nsgref3_Same (a0 : (List (Arr5 api_Range))) (a1 : (List (Arr5 api_Range))) : Option Bool :=
  if ((List.length a0 : Int) != (List.length a1 : Int)) = true then
    some false
  else
    (F_nsgref3_Same_L1 a0 a1 fuel (0:Int)).bind fun (o8 : (Unit ⊕ Bool)) =>
    match o8 with
    | .inl () =>
        some true
    | .inr r17 =>
        some r17
def F_nsgref7_Aligned (a0 : (Arr5 api_Range)) : Option Bool :=
  (F_nsgref7_Cost a0 false).bind fun (r1 : Int) =>
  some (r1 == (1:Int))
def F_nsglaw7_costs (a0 : (Arr5 api_Range)) : Option Bool :=
  (F_expand_Entries a0).bind fun (r1 : ((List (Arr5 api_Range)) × Int)) =>
  (F_nsgref7_Entries a0).bind fun (r3 : ((List (Arr5 api_Range)) × Int)) =>
  (F_nsgref3_Same r1.1 r3.1).bind fun (r5 : Bool) =>
  (some r5).bind fun (b7 : Bool) =>
  (some (b7 && (r1.2 == r3.2))).bind fun (b9 : Bool) =>
  (if b9 = true then
    (F_expand_Aligned a0).bind fun (r11 : Bool) =>
    (F_nsgref7_Aligned a0).bind fun (r13 : Bool) =>
    some (r11 == r13)
   else some false).bind fun (v15 : Bool) =>
  (some v15).bind fun (b17 : Bool) =>
  (if b17 = true then
    (F_expand_Cost a0 true).bind fun (r19 : Int) =>
    (F_nsgref7_Cost a0 true).bind fun (r21 : Int) =>
    some (r19 == r21)
   else some false).bind fun (v23 : Bool) =>
  (some v23).bind fun (b25 : Bool) =>
  (if b25 = true then
    (F_expand_Cost a0 false).bind fun (r27 : Int) =>
    (F_nsgref7_Cost a0 false).bind fun (r29 : Int) =>
    some (r27 == r29)
   else some false).bind fun (v31 : Bool) =>
  some v31
def F_nsggen_Tape_SpoilBox (a0 : nsggen_Tape) (a1 : (Arr5 api_Range)) : Option ((Arr5 api_Range) × nsggen_Tape) :=
  (F_nsggen_Tape_Next a0 (5:Int)).bind fun (r1 : (Int × nsggen_Tape)) =>
  ((F_nsggen_Tape_Next r1.2 (3:Int)).bind fun (r20 : (Int × nsggen_Tape)) =>
  if (r20.1 == (0:Int)) = true then
    if 0 ≤ r1.1 ∧ r1.1 < 5 then
    if 0 ≤ r1.1 ∧ r1.1 < 5 then
    if 0 ≤ r1.1 ∧ r1.1 < 5 then
    if 0 ≤ r1.1 ∧ r1.1 < 5 then
    some (r20.2, (Arr5.set (Arr5.set a1 r1.1 ({ (Arr5.get a1 r1.1) with Lo := (Arr5.get a1 r1.1).Hi } : api_Range)) r1.1 ({ (Arr5.get (Arr5.set a1 r1.1 ({ (Arr5.get a1 r1.1) with Lo := (Arr5.get a1 r1.1).Hi } : api_Range)) r1.1) with Hi := (Arr5.get a1 r1.1).Lo } : api_Range)))
    else none
    else none
    else none
    else none
  else
    if (r20.1 == (1:Int)) = true then
      if 0 ≤ r1.1 ∧ r1.1 < 5 then
      some (r20.2, (Arr5.set a1 r1.1 ({ (Arr5.get a1 r1.1) with Hi := (4294967295:Int) } : api_Range)))
      else none
    else
      if 0 ≤ r1.1 ∧ r1.1 < 5 then
      some (r20.2, (Arr5.set a1 r1.1 (api_Range.mk (1:Int) (0:Int))))
      else none).bind fun (o18 : (nsggen_Tape × (Arr5 api_Range))) =>
  match o18 with
  | (v16, v17) =>
    some (v17, v16)
def F_nsglaw7_sane : Option Bool :=
  (F_nsgref3_Full).bind fun (r1 : (Arr5 api_Range)) =>
  (F_expand_Entries ({ r1 with x4 := (api_Range.mk (1:Int) (65534:Int)) } : (Arr5 api_Range))).bind fun (r3 : ((List (Arr5 api_Range)) × Int)) =>
  (F_nsgref3_Full).bind fun (r5 : (Arr5 api_Range)) =>
  (F_expand_Cost r5 false).bind fun (r7 : Int) =>
  (some (r7 == (1:Int))).bind fun (b9 : Bool) =>
  (if b9 = true then
    (F_expand_Cost ({ r1 with x4 := (api_Range.mk (1:Int) (65534:Int)) } : (Arr5 api_Range)) false).bind fun (r11 : Int) =>
    some (r11 == (30:Int))
   else some false).bind fun (v13 : Bool) =>
  (some v13).bind fun (b15 : Bool) =>
  (if b15 = true then
    (F_expand_Cost ({ r1 with x4 := (api_Range.mk (1:Int) (65534:Int)) } : (Arr5 api_Range)) true).bind fun (r17 : Int) =>
    some (r17 == (1:Int))
   else some false).bind fun (v19 : Bool) =>
  (some v19).bind fun (b21 : Bool) =>
  (some (b21 && (r3.2 == (0:Int)))).bind fun (b23 : Bool) =>
  (some (b23 && ((List.length r3.1 : Int) == (30:Int)))).bind fun (b25 : Bool) =>
  (if b25 = true then
    (F_nsgref3_Full).bind fun (r27 : (Arr5 api_Range)) =>
    (F_expand_Aligned r27).bind fun (r29 : Bool) =>
    some r29
   else some false).bind fun (v31 : Bool) =>
  some v31
def F_nsglaw7_ExpandComputes_L1 : Nat → nsggen_Tape → Int → Option (nsggen_Tape ⊕ Bool)
  | 0, _, _ => none
  | n41+1, v20, v21 =>
    if (decide (v21 < (5:Int))) = true then
      (F_nsggen_Tape_Box v20).bind fun (r42 : ((Arr5 api_Range) × nsggen_Tape)) =>
      (F_nsglaw7_costs r42.1).bind fun (r44 : Bool) =>
      (some (!r44)).bind fun (b46 : Bool) =>
      (if b46 = true then some (true, r42.2) else
        (F_nsggen_Tape_SpoilBox r42.2 r42.1).bind fun (r48 : ((Arr5 api_Range) × nsggen_Tape)) =>
        (F_nsglaw7_costs r48.1).bind fun (r50 : Bool) =>
        some ((!r50), r48.2)
       ).bind fun (v52 : Bool × nsggen_Tape) =>
      if v52.1 = true then
        some (.inr false)
      else
        F_nsglaw7_ExpandComputes_L1 n41 v52.2 (IntKind.wrap .i64 (v21 + (1:Int)))
    else
      some (.inl v20)
def F_nsglaw7_ExpandComputes (a0 : (List Int)) (a1 : (Arr5 api_Range)) : Option Bool :=
  (F_nsggen_New a0).bind fun (r1 : nsggen_Tape) =>
  (F_nsglaw7_ExpandComputes_L1 fuel r1 (0:Int)).bind fun (o39 : (nsggen_Tape ⊕ Bool)) =>
  match o39 with
  | .inl v38 =>
      (F_nsglaw7_costs a1).bind fun (r58 : Bool) =>
      (some r58).bind fun (b60 : Bool) =>
      (if b60 = true then
        (F_nsglaw7_sane).bind fun (r62 : Bool) =>
        some r62
       else some false).bind fun (v64 : Bool) =>
      some v64
  | .inr r68 =>
      some r68
def F_nsggen_Tape_Header (a0 : nsggen_Tape) : Option (api_Header × nsggen_Tape) :=
  (F_nsggen_Tape_Addr a0).bind fun (r1 : (Int × nsggen_Tape)) =>
  (F_nsggen_Tape_Addr r1.2).bind fun (r3 : (Int × nsggen_Tape)) =>
  (F_nsggen_Tape_Next r3.2 (6:Int)).bind fun (r5 : (Int × nsggen_Tape)) =>
  (idx [(6:Int), (17:Int), (1:Int), (0:Int), (7:Int), (255:Int)] r5.1).bind fun (x7 : Int) =>
  (F_nsggen_Tape_Number r5.2 (65535:Int)).bind fun (r9 : (Int × nsggen_Tape)) =>
  (F_nsggen_Tape_Number r9.2 (65535:Int)).bind fun (r11 : (Int × nsggen_Tape)) =>
  some ((api_Header.mk r1.1 r3.1 x7 (IntKind.wrap .u16 r9.1) (IntKind.wrap .u16 r11.1)), r11.2)
def F_nsgref3_Header (a0 : (Arr5 Int)) : Option api_Header :=
  some (api_Header.mk a0.x0 a0.x1 (IntKind.wrap .u8 a0.x2) (IntKind.wrap .u16 a0.x3) (IntKind.wrap .u16 a0.x4))
def F_nsggen_Tape_Near_L1 (x13 : (Arr5 api_Range)) : Nat → nsggen_Tape → (Arr5 Int) → Int → Option (nsggen_Tape × (Arr5 Int))
  | 0, _, _, _ => none
  | n61+1, v35, v36, v37 =>
    if (decide (v37 < (5:Int))) = true then
      if 0 ≤ v37 ∧ v37 < 5 then
      if 0 ≤ v37 ∧ v37 < 5 then
      if 0 ≤ v37 ∧ v37 < 5 then
      if 0 ≤ v37 ∧ v37 < 5 then
      if 0 ≤ v37 ∧ v37 < 5 then
      if 0 ≤ v37 ∧ v37 < 5 then
      if 0 ≤ v37 ∧ v37 < 5 then
      (F_nsggen_Tape_Next v35 (5:Int)).bind fun (r69 : (Int × nsggen_Tape)) =>
      (idx [(Arr5.get x13 v37).Lo, (Arr5.get x13 v37).Hi, (IntKind.wrap .u32 ((Arr5.get x13 v37).Lo - (1:Int))), (IntKind.wrap .u32 ((Arr5.get x13 v37).Hi + (1:Int))), (IntKind.wrap .u32 ((Arr5.get x13 v37).Lo + (IntKind.wrap .u32 (Int.tdiv (IntKind.wrap .u32 ((Arr5.get x13 v37).Hi - (Arr5.get x13 v37).Lo)) (2:Int)))))] r69.1).bind fun (x71 : Int) =>
      if 0 ≤ v37 ∧ v37 < 5 then
      if 0 ≤ v37 ∧ v37 < 5 then
      (F_nsgref3_Top v37).bind fun (r76 : Int) =>
      if 0 ≤ v37 ∧ v37 < 5 then
      F_nsggen_Tape_Near_L1 x13 n61 r69.2 (Arr5.set (Arr5.set v36 v37 x71) v37 (iMin (Arr5.get (Arr5.set v36 v37 x71) v37) r76)) (IntKind.wrap .i64 (v37 + (1:Int)))
      else none
      else none
      else none
      else none
      else none
      else none
      else none
      else none
      else none
      else none
    else
      some (v35, v36)
def F_nsggen_Tape_Near (a0 : nsggen_Tape) (a1 : (List (Arr5 api_Range))) : Option (api_Header × nsggen_Tape) :=
  (some ((List.length a1 : Int) == (0:Int))).bind fun (b1 : Bool) =>
  (if b1 = true then some (true, a0) else
    (F_nsggen_Tape_Next a0 (4:Int)).bind fun (r3 : (Int × nsggen_Tape)) =>
    some ((r3.1 == (3:Int)), r3.2)
   ).bind fun (v5 : Bool × nsggen_Tape) =>
  if v5.1 = true then
    (F_nsggen_Tape_Header v5.2).bind fun (r9 : (api_Header × nsggen_Tape)) =>
    some (r9.1, r9.2)
  else
    (F_nsggen_Tape_Next v5.2 (List.length a1 : Int)).bind fun (r11 : (Int × nsggen_Tape)) =>
    (idx a1 r11.1).bind fun (x13 : (Arr5 api_Range)) =>
    (F_nsggen_Tape_Near_L1 x13 fuel r11.2 z_a5_u32 (0:Int)).bind fun (o59 : (nsggen_Tape × (Arr5 Int))) =>
    match o59 with
    | (v57, v58) =>
      (F_nsgref3_Header v58).bind fun (r81 : api_Header) =>
      some (r81, v57)
def F_nsgref3_Point (a0 : api_Header) : Option (Arr5 Int) :=
  some (Arr5.mk a0.Src a0.Dst (IntKind.wrap .u32 a0.Proto) (IntKind.wrap .u32 a0.SrcPort) (IntKind.wrap .u32 a0.DstPort))
def F_nsgref3_Contains_L1 (a0 : (Arr5 api_Range)) (r1 : (Arr5 Int)) : Nat → Int → Option (Unit ⊕ Bool)
  | 0, _ => none
  | n27+1, v3 =>
    if (decide (v3 < (5:Int))) = true then
      if 0 ≤ v3 ∧ v3 < 5 then
      if 0 ≤ v3 ∧ v3 < 5 then
      (some (decide ((Arr5.get r1 v3) < (Arr5.get a0 v3).Lo))).bind fun (b30 : Bool) =>
      (if b30 = true then some true else
        if 0 ≤ v3 ∧ v3 < 5 then
        if 0 ≤ v3 ∧ v3 < 5 then
        some (decide ((Arr5.get r1 v3) > (Arr5.get a0 v3).Hi))
        else none
        else none
       ).bind fun (v34 : Bool) =>
      if v34 = true then
        some (.inr false)
      else
        F_nsgref3_Contains_L1 a0 r1 n27 (IntKind.wrap .i64 (v3 + (1:Int)))
      else none
      else none
    else
      some (.inl ())
def F_nsgref3_Contains (a0 : (Arr5 api_Range)) (a1 : api_Header) : Option Bool :=
  (F_nsgref3_Point a1).bind fun (r1 : (Arr5 Int)) =>
  (F_nsgref3_Contains_L1 a0 r1 fuel (0:Int)).bind fun (o25 : (Unit ⊕ Bool)) =>
  match o25 with
  | .inl () =>
      (F_nsgref3_Valid a0).bind fun (r49 : Bool) =>
      some r49
  | .inr r51 =>
      some r51
def F_nsgref3_order (a0 : Int) (a1 : Int) : Option Int :=
  if (decide (a0 < a1)) = true then
    some (-1:Int)
  else
    if (decide (a0 > a1)) = true then
      some (1:Int)
    else
      some (0:Int)
def F_nsgref3_Compare_L1 (a0 : (Arr5 api_Range)) (a1 : (Arr5 api_Range)) : Nat → Int → Option (Unit ⊕ Int)
  | 0, _ => none
  | n23+1, v1 =>
    if (decide (v1 < (5:Int))) = true then
      if 0 ≤ v1 ∧ v1 < 5 then
      if 0 ≤ v1 ∧ v1 < 5 then
      if ((Arr5.get a0 v1).Lo != (Arr5.get a1 v1).Lo) = true then
        if 0 ≤ v1 ∧ v1 < 5 then
        if 0 ≤ v1 ∧ v1 < 5 then
        (F_nsgref3_order ((Arr5.get a0 v1).Lo) ((Arr5.get a1 v1).Lo)).bind fun (r29 : Int) =>
        some (.inr r29)
        else none
        else none
      else
        if 0 ≤ v1 ∧ v1 < 5 then
        if 0 ≤ v1 ∧ v1 < 5 then
        if ((Arr5.get a0 v1).Hi != (Arr5.get a1 v1).Hi) = true then
          if 0 ≤ v1 ∧ v1 < 5 then
          if 0 ≤ v1 ∧ v1 < 5 then
          (F_nsgref3_order ((Arr5.get a0 v1).Hi) ((Arr5.get a1 v1).Hi)).bind fun (r37 : Int) =>
          some (.inr r37)
          else none
          else none
        else
          F_nsgref3_Compare_L1 a0 a1 n23 (IntKind.wrap .i64 (v1 + (1:Int)))
        else none
        else none
      else none
      else none
    else
      some (.inl ())
def F_nsgref3_Compare (a0 : (Arr5 api_Range)) (a1 : (Arr5 api_Range)) : Option Int :=
  (F_nsgref3_Compare_L1 a0 a1 fuel (0:Int)).bind fun (o21 : (Unit ⊕ Int)) =>
  match o21 with
  | .inl () =>
      some (0:Int)
  | .inr r43 =>
      some r43
def F_nsglaw7_ExpandDivides_L2 (a1 : api_Header) (r5 : ((List (Arr5 api_Range)) × Int)) (r26 : (api_Header × nsggen_Tape)) (r28 : (api_Header × nsggen_Tape)) (v30 : Int) : Nat → Int → Int → Option Int
  | 0, _, _ => none
  | n106+1, v85, v86 =>
    if (decide (v86 < (List.length r5.1 : Int))) = true then
      ((idx r5.1 v86).bind fun (x116 : (Arr5 api_Range)) =>
      (idx [a1, r26.1, r28.1] v30).bind fun (x118 : api_Header) =>
      (F_nsgref3_Contains x116 x118).bind fun (r120 : Bool) =>
      if r120 = true then
        some (IntKind.wrap .i64 (v85 + (1:Int)))
      else
        some v85).bind fun (v114 : Int) =>
        F_nsglaw7_ExpandDivides_L2 a1 r5 r26 r28 v30 n106 v114 (IntKind.wrap .i64 (v86 + (1:Int)))
    else
      some v85
def F_nsglaw7_ExpandDivides_L1 (a1 : api_Header) (r3 : ((Arr5 api_Range) × nsggen_Tape)) (r5 : ((List (Arr5 api_Range)) × Int)) (r26 : (api_Header × nsggen_Tape)) (r28 : (api_Header × nsggen_Tape)) : Nat → Int → Option (Unit ⊕ Bool)
  | 0, _ => none
  | n84+1, v30 =>
    if (decide (v30 < (List.length [a1, r26.1, r28.1] : Int))) = true then
      (F_nsglaw7_ExpandDivides_L2 a1 r5 r26 r28 v30 fuel (0:Int) (0:Int)).bind fun (v104 : Int) =>
        (some (decide (v104 > (1:Int)))).bind fun (b124 : Bool) =>
        (if b124 = true then some true else
          (idx [a1, r26.1, r28.1] v30).bind fun (x126 : api_Header) =>
          (F_nsgref3_Contains r3.1 x126).bind fun (r128 : Bool) =>
          some (!((v104 == (1:Int)) == r128))
         ).bind fun (v130 : Bool) =>
        if v130 = true then
          some (.inr false)
        else
          F_nsglaw7_ExpandDivides_L1 a1 r3 r5 r26 r28 n84 (IntKind.wrap .i64 (v30 + (1:Int)))
    else
      some (.inl ())
def F_nsglaw7_ExpandDivides_L3 (r5 : ((List (Arr5 api_Range)) × Int)) : Nat → Int → Option (Unit ⊕ Bool)
  | 0, _ => none
  | n163+1, v136 =>
    if (decide (v136 < (List.length r5.1 : Int))) = true then
      (idx r5.1 v136).bind fun (x164 : (Arr5 api_Range)) =>
      (F_expand_Aligned x164).bind fun (r166 : Bool) =>
      (some (!r166)).bind fun (b168 : Bool) =>
      (if b168 = true then some true else
        (some (decide (v136 > (0:Int)))).bind fun (b170 : Bool) =>
        (if b170 = true then
          (idx r5.1 (IntKind.wrap .i64 (v136 - (1:Int)))).bind fun (x172 : (Arr5 api_Range)) =>
          (idx r5.1 v136).bind fun (x174 : (Arr5 api_Range)) =>
          (F_nsgref3_Compare x172 x174).bind fun (r176 : Int) =>
          some (decide (r176 ≥ (0:Int)))
         else some false).bind fun (v178 : Bool) =>
        some v178
       ).bind fun (v180 : Bool) =>
      if v180 = true then
        some (.inr false)
      else
        F_nsglaw7_ExpandDivides_L3 r5 n163 (IntKind.wrap .i64 (v136 + (1:Int)))
    else
      some (.inl ())
def F_nsglaw7_ExpandDivides (a0 : (List Int)) (a1 : api_Header) : Option Bool :=
  (F_nsggen_New a0).bind fun (r1 : nsggen_Tape) =>
  (F_nsggen_Tape_Box r1).bind fun (r3 : ((Arr5 api_Range) × nsggen_Tape)) =>
  (F_expand_Entries r3.1).bind fun (r5 : ((List (Arr5 api_Range)) × Int)) =>
  if (r5.2 != (0:Int)) = true then
    (some (r5.2 == (3:Int))).bind fun (b7 : Bool) =>
    (if b7 = true then
      (F_expand_Cost r3.1 false).bind fun (r9 : Int) =>
      some (decide (r9 > (4096:Int)))
     else some false).bind fun (v11 : Bool) =>
    (some v11).bind fun (b13 : Bool) =>
    (if b13 = true then
      (F_nsglaw7_sane).bind fun (r15 : Bool) =>
      some r15
     else some false).bind fun (v17 : Bool) =>
    some v17
  else
    (F_expand_Cost r3.1 false).bind fun (r24 : Int) =>
    if ((List.length r5.1 : Int) != r24) = true then
      some false
    else
      (F_nsggen_Tape_Near r3.2 [r3.1]).bind fun (r26 : (api_Header × nsggen_Tape)) =>
      (F_nsggen_Tape_Near r26.2 r5.1).bind fun (r28 : (api_Header × nsggen_Tape)) =>
      (F_nsglaw7_ExpandDivides_L1 a1 r3 r5 r26 r28 fuel (0:Int)).bind fun (o82 : (Unit ⊕ Bool)) =>
      match o82 with
      | .inl () =>
          (F_nsglaw7_ExpandDivides_L3 r5 fuel (0:Int)).bind fun (o161 : (Unit ⊕ Bool)) =>
          match o161 with
          | .inl () =>
              (F_nsglaw7_sane).bind fun (r188 : Bool) =>
              some r188
          | .inr r190 =>
              some r190
      | .inr r191 =>
          some r191
def F_nsglaw7_ExpandProducts_L1 (v8 : (Arr5 api_Range)) : Nat → Int → Int → Option Int
  | 0, _, _ => none
  | n29+1, v17, v18 =>
    if (decide (v18 < (5:Int))) = true then
      (F_nsgref3_Full).bind fun (r30 : (Arr5 api_Range)) =>
      if 0 ≤ v18 ∧ v18 < 5 then
      if 0 ≤ v18 ∧ v18 < 5 then
      (F_expand_Cost (Arr5.set r30 v18 (Arr5.get v8 v18)) false).bind fun (r35 : Int) =>
      F_nsglaw7_ExpandProducts_L1 v8 n29 (IntKind.wrap .i64 (v17 * r35)) (IntKind.wrap .i64 (v18 + (1:Int)))
      else none
      else none
    else
      some v17
def F_nsglaw7_ExpandProducts (a0 : (List Int)) (a1 : (Arr5 api_Range)) : Option Bool :=
  (F_nsggen_New a0).bind fun (r1 : nsggen_Tape) =>
  ((F_nsggen_Tape_Next r1 (3:Int)).bind fun (r12 : (Int × nsggen_Tape)) =>
  if (decide (r12.1 > (0:Int))) = true then
    (F_nsggen_Tape_Box r12.2).bind fun (r14 : ((Arr5 api_Range) × nsggen_Tape)) =>
    some (r14.1, r14.2)
  else
    some (a1, r12.2)).bind fun (o10 : ((Arr5 api_Range) × nsggen_Tape)) =>
  match o10 with
  | (v8, v9) =>
    (F_nsglaw7_ExpandProducts_L1 v8 fuel (1:Int) (0:Int)).bind fun (v27 : Int) =>
      (if (v27 == (0:Int)) = true then
        some (0:Int)
      else
        some (1:Int)).bind fun (v39 : Int) =>
        (F_expand_Cost v8 false).bind fun (r42 : Int) =>
        (some (r42 == v27)).bind fun (b44 : Bool) =>
        (if b44 = true then
          (F_expand_Cost v8 true).bind fun (r46 : Int) =>
          some (r46 == v39)
         else some false).bind fun (v48 : Bool) =>
        (some v48).bind fun (b50 : Bool) =>
        (if b50 = true then
          (F_nsglaw7_sane).bind fun (r52 : Bool) =>
          some r52
         else some false).bind fun (v54 : Bool) =>
        some v54
def F_expand_Sum_L1 (a0 : (List (Arr5 api_Range))) (a1 : Bool) : Nat → Int → Int → Option Int
  | 0, _, _ => none
  | n10+1, v1, v2 =>
    if (decide (v2 < (List.length a0 : Int))) = true then
      (idx a0 v2).bind fun (x11 : (Arr5 api_Range)) =>
      (F_expand_Cost x11 a1).bind fun (r13 : Int) =>
      F_expand_Sum_L1 a0 a1 n10 (IntKind.wrap .i64 (v1 + r13)) (IntKind.wrap .i64 (v2 + (1:Int)))
    else
      some v1
def F_expand_Sum (a0 : (List (Arr5 api_Range))) (a1 : Bool) : Option Int :=
  (F_expand_Sum_L1 a0 a1 fuel (0:Int) (0:Int)).bind fun (v8 : Int) =>
    some v8
def F_nsglaw7_ExpandCuts (a0 : (List Int)) (a1 : Int) (a2 : Int) : Option Bool :=
  (F_nsggen_New a0).bind fun (r1 : nsggen_Tape) =>
  (F_nsggen_Tape_Box r1).bind fun (r3 : ((Arr5 api_Range) × nsggen_Tape)) =>
  (F_nsggen_Mod a1 (5:Int)).bind fun (r5 : Int) =>
  ((F_nsggen_Tape_Next r3.2 (2:Int)).bind fun (r18 : (Int × nsggen_Tape)) =>
  if (r18.1 == (0:Int)) = true then
    (F_nsgref3_Top r5).bind fun (r20 : Int) =>
    (F_nsggen_Tape_Number r18.2 r20).bind fun (r22 : (Int × nsggen_Tape)) =>
    some (r22.2, r22.1)
  else
    some (r18.2, a2)).bind fun (o16 : (nsggen_Tape × Int)) =>
  match o16 with
  | (v14, v15) =>
    (F_expand_Aligned r3.1).bind fun (r25 : Bool) =>
    (F_expand_Cost r3.1 false).bind fun (r27 : Int) =>
    if (!(r25 == (r27 == (1:Int)))) = true then
      some false
    else
      if 0 ≤ r5 ∧ r5 < 5 then
      (some (decide (v15 < (Arr5.get r3.1 r5).Lo))).bind fun (b30 : Bool) =>
      (if b30 = true then some true else
        if 0 ≤ r5 ∧ r5 < 5 then
        some (decide (v15 ≥ (Arr5.get r3.1 r5).Hi))
        else none
       ).bind fun (v33 : Bool) =>
      if v33 = true then
        (F_nsglaw7_sane).bind fun (r46 : Bool) =>
        some r46
      else
        if 0 ≤ r5 ∧ r5 < 5 then
        if 0 ≤ r5 ∧ r5 < 5 then
        (F_expand_Cost r3.1 false).bind fun (r51 : Int) =>
        (F_expand_Cost (Arr5.set r3.1 r5 ({ (Arr5.get r3.1 r5) with Hi := v15 } : api_Range)) false).bind fun (r53 : Int) =>
        (F_expand_Cost (Arr5.set r3.1 r5 ({ (Arr5.get r3.1 r5) with Lo := (IntKind.wrap .u32 (v15 + (1:Int))) } : api_Range)) false).bind fun (r55 : Int) =>
        (some (decide (r51 ≤ (IntKind.wrap .i64 (r53 + r55))))).bind fun (b57 : Bool) =>
        (if b57 = true then
          (F_expand_Sum [(Arr5.set r3.1 r5 ({ (Arr5.get r3.1 r5) with Hi := v15 } : api_Range)), (Arr5.set r3.1 r5 ({ (Arr5.get r3.1 r5) with Lo := (IntKind.wrap .u32 (v15 + (1:Int))) } : api_Range))] true).bind fun (r59 : Int) =>
          some (r59 == (2:Int))
         else some false).bind fun (v61 : Bool) =>
        (some v61).bind fun (b63 : Bool) =>
        (if b63 = true then
          (F_nsglaw7_sane).bind fun (r65 : Bool) =>
          some r65
         else some false).bind fun (v67 : Bool) =>
        some v67
        else none
        else none
      else none
def F_nsggen_Tape_Boxes_L1 (a2 : Bool) : Nat → nsggen_Tape → (List (Arr5 api_Range)) → Int → Option (nsggen_Tape × (List (Arr5 api_Range)))
  | 0, _, _, _ => none
  | n137+1, v67, v68, v69 =>
    if (decide (v69 > (0:Int))) = true then
      ((F_nsggen_Tape_Box v67).bind fun (r171 : ((Arr5 api_Range) × nsggen_Tape)) =>
      ((some a2).bind fun (b188 : Bool) =>
      (if b188 = true then
        (F_nsggen_Tape_Next r171.2 (8:Int)).bind fun (r190 : (Int × nsggen_Tape)) =>
        some ((r190.1 == (7:Int)), r190.2)
       else some (false, r171.2)).bind fun (v192 : Bool × nsggen_Tape) =>
      if v192.1 = true then
        (F_nsggen_Tape_SpoilBox v192.2 r171.1).bind fun (r196 : ((Arr5 api_Range) × nsggen_Tape)) =>
        some (r196.2, r196.1)
      else
        some (v192.2, r171.1)).bind fun (o186 : (nsggen_Tape × (Arr5 api_Range))) =>
      match o186 with
      | (v184, v185) =>
        if List.length v68 + List.length [v185] ≤ lim then
        some (v184, (v68 ++ [v185]))
        else none).bind fun (o169 : (nsggen_Tape × (List (Arr5 api_Range)))) =>
      match o169 with
      | (v167, v168) =>
        F_nsggen_Tape_Boxes_L1 a2 n137 v167 v168 (IntKind.wrap .i64 (v69 - (1:Int)))
    else
      some (v67, v68)
def F_nsggen_Tape_Boxes (a0 : nsggen_Tape) (a1 : Int) (a2 : Bool) : Option ((List (Arr5 api_Range)) × nsggen_Tape) :=
  (F_nsggen_Tape_Next a0 (IntKind.wrap .i64 (a1 + (1:Int)))).bind fun (r1 : (Int × nsggen_Tape)) =>
  (F_nsggen_Tape_Boxes_L1 a2 fuel r1.2 ([] : (List (Arr5 api_Range))) r1.1).bind fun (o135 : (nsggen_Tape × (List (Arr5 api_Range)))) =>
  match o135 with
  | (v133, v134) =>
    some (v134, v133)
def F_nsggen_Tape_Table_L1 (r1 : ((List (Arr5 api_Range)) × nsggen_Tape)) : Nat → nsggen_Tape → (List api_Rule) → Int → Option (nsggen_Tape × (List api_Rule))
  | 0, _, _, _ => none
  | n23+1, v10, v11, v12 =>
    if (decide (v12 < (List.length r1.1 : Int))) = true then
      (idx r1.1 v12).bind fun (x24 : (Arr5 api_Range)) =>
      (F_nsggen_Tape_Next v10 (3:Int)).bind fun (r26 : (Int × nsggen_Tape)) =>
      if List.length v11 + List.length [(api_Rule.mk x24 (decide (r26.1 > (0:Int))))] ≤ lim then
      F_nsggen_Tape_Table_L1 r1 n23 r26.2 (v11 ++ [(api_Rule.mk x24 (decide (r26.1 > (0:Int))))]) (IntKind.wrap .i64 (v12 + (1:Int)))
      else none
    else
      some (v10, v11)
def F_nsggen_Tape_Table (a0 : nsggen_Tape) (a1 : Int) (a2 : Bool) : Option ((List api_Rule) × nsggen_Tape) :=
  (F_nsggen_Tape_Boxes a0 a1 a2).bind fun (r1 : ((List (Arr5 api_Range)) × nsggen_Tape)) =>
  (F_nsggen_Tape_Table_L1 r1 fuel r1.2 ([] : (List api_Rule)) (0:Int)).bind fun (o21 : (nsggen_Tape × (List api_Rule))) =>
  match o21 with
  | (v19, v20) =>
    some (v20, v19)
def F_nsgref7_Sum_L1 (a0 : (List (Arr5 api_Range))) (a1 : Bool) : Nat → Int → Int → Option Int
  | 0, _, _ => none
  | n10+1, v1, v2 =>
    if (decide (v2 < (List.length a0 : Int))) = true then
      (idx a0 v2).bind fun (x11 : (Arr5 api_Range)) =>
      (F_nsgref7_Cost x11 a1).bind fun (r13 : Int) =>
      F_nsgref7_Sum_L1 a0 a1 n10 (IntKind.wrap .i64 (v1 + r13)) (IntKind.wrap .i64 (v2 + (1:Int)))
    else
      some v1
def F_nsgref7_Sum (a0 : (List (Arr5 api_Range))) (a1 : Bool) : Option Int :=
  (F_nsgref7_Sum_L1 a0 a1 fuel (0:Int) (0:Int)).bind fun (v8 : Int) =>
    some v8
def F_expand_Total_L1 (a0 : (List api_Rule)) (a1 : Bool) : Nat → Int → Int → Option Int
  | 0, _, _ => none
  | n10+1, v1, v2 =>
    if (decide (v2 < (List.length a0 : Int))) = true then
      (idx a0 v2).bind fun (x11 : api_Rule) =>
      (F_expand_Cost x11.Match a1).bind fun (r13 : Int) =>
      F_expand_Total_L1 a0 a1 n10 (IntKind.wrap .i64 (v1 + r13)) (IntKind.wrap .i64 (v2 + (1:Int)))
    else
      some v1
def F_expand_Total (a0 : (List api_Rule)) (a1 : Bool) : Option Int :=
  (F_expand_Total_L1 a0 a1 fuel (0:Int) (0:Int)).bind fun (v8 : Int) =>
    some v8
def F_nsgref7_Total_L1 (a0 : (List api_Rule)) (a1 : Bool) : Nat → Int → Int → Option Int
  | 0, _, _ => none
  | n10+1, v1, v2 =>
    if (decide (v2 < (List.length a0 : Int))) = true then
      (idx a0 v2).bind fun (x11 : api_Rule) =>
      (F_nsgref7_Cost x11.Match a1).bind fun (r13 : Int) =>
      F_nsgref7_Total_L1 a0 a1 n10 (IntKind.wrap .i64 (v1 + r13)) (IntKind.wrap .i64 (v2 + (1:Int)))
    else
      some v1
def F_nsgref7_Total (a0 : (List api_Rule)) (a1 : Bool) : Option Int :=
  (F_nsgref7_Total_L1 a0 a1 fuel (0:Int) (0:Int)).bind fun (v8 : Int) =>
    some v8
def F_nsglaw7_ExpandSums (a0 : (List Int)) (a1 : (List (Arr5 api_Range))) (a2 : (List api_Rule)) (a3 : Bool) : Option Bool :=
  (F_nsggen_New a0).bind fun (r1 : nsggen_Tape) =>
  (F_nsggen_Tape_Boxes r1 (5:Int) true).bind fun (r3 : ((List (Arr5 api_Range)) × nsggen_Tape)) =>
  (F_nsggen_Tape_Table r3.2 (5:Int) true).bind fun (r5 : ((List api_Rule) × nsggen_Tape)) =>
  if 0 ≤ (0:Int) ∧ (0:Int) ≤ (iMin (List.length a1 : Int) (100:Int)) ∧ (iMin (List.length a1 : Int) (100:Int)) ≤ (List.length a1 : Int) then
  if 0 ≤ (0:Int) ∧ (0:Int) ≤ (iMin (List.length a2 : Int) (100:Int)) ∧ (iMin (List.length a2 : Int) (100:Int)) ≤ (List.length a2 : Int) then
  (F_expand_Sum r3.1 a3).bind fun (r9 : Int) =>
  (F_nsgref7_Sum r3.1 a3).bind fun (r11 : Int) =>
  (some (r9 == r11)).bind fun (b13 : Bool) =>
  (if b13 = true then
    (F_expand_Total r5.1 a3).bind fun (r15 : Int) =>
    (F_nsgref7_Total r5.1 a3).bind fun (r17 : Int) =>
    some (r15 == r17)
   else some false).bind fun (v19 : Bool) =>
  (some v19).bind fun (b21 : Bool) =>
  (if b21 = true then
    (F_expand_Sum (List.drop (Int.toNat (0:Int)) (List.take (Int.toNat (iMin (List.length a1 : Int) (100:Int))) a1)) a3).bind fun (r23 : Int) =>
    (F_nsgref7_Sum (List.drop (Int.toNat (0:Int)) (List.take (Int.toNat (iMin (List.length a1 : Int) (100:Int))) a1)) a3).bind fun (r25 : Int) =>
    some (r23 == r25)
   else some false).bind fun (v27 : Bool) =>
  (some v27).bind fun (b29 : Bool) =>
  (if b29 = true then
    (F_expand_Total (List.drop (Int.toNat (0:Int)) (List.take (Int.toNat (iMin (List.length a2 : Int) (100:Int))) a2)) a3).bind fun (r31 : Int) =>
    (F_nsgref7_Total (List.drop (Int.toNat (0:Int)) (List.take (Int.toNat (iMin (List.length a2 : Int) (100:Int))) a2)) a3).bind fun (r33 : Int) =>
    some (r31 == r33)
   else some false).bind fun (v35 : Bool) =>
  (some v35).bind fun (b37 : Bool) =>
  (if b37 = true then
    (F_nsglaw7_sane).bind fun (r39 : Bool) =>
    some r39
   else some false).bind fun (v41 : Bool) =>
  some v41
  else none
  else none
end Go.AM

/- Printed by gen.py: what the functions compute. -/
import Derived.Test.YtdpogkakaeeccaaDoorTy
set_option maxRecDepth 100000
namespace Go.AM
open Go
def F_nsglaw5_sane : Option Bool :=
  some true
def F_cardinal_Add (a0 : api_Count) (a1 : api_Count) : Option api_Count :=
  if 0 ≤ a0.Lo ∧ 0 ≤ a1.Lo ∧ 0 ≤ (0:Int) ∧ (0:Int) ≤ 1 then
  if 0 ≤ a0.Hi ∧ 0 ≤ a1.Hi ∧ 0 ≤ ((a0.Lo + a1.Lo + (0:Int)) / 18446744073709551616) ∧ ((a0.Lo + a1.Lo + (0:Int)) / 18446744073709551616) ≤ 1 then
  some (api_Count.mk ((a0.Hi + a1.Hi + ((a0.Lo + a1.Lo + (0:Int)) / 18446744073709551616)) % 18446744073709551616) ((a0.Lo + a1.Lo + (0:Int)) % 18446744073709551616))
  else none
  else none
def F_cmp_isNaN_uint64 (a0 : Int) : Option Bool :=
  some (a0 != a0)
def F_cmp_Compare_uint64 (a0 : Int) (a1 : Int) : Option Int :=
  (F_cmp_isNaN_uint64 a0).bind fun (r1 : Bool) =>
  (F_cmp_isNaN_uint64 a1).bind fun (r3 : Bool) =>
  if r1 = true then
    if r3 = true then
      some (0:Int)
    else
      some (-1:Int)
  else
    if r3 = true then
      some (1:Int)
    else
      if (decide (a0 < a1)) = true then
        some (-1:Int)
      else
        if (decide (a0 > a1)) = true then
          some (1:Int)
        else
          some (0:Int)
def F_cmp_Or_int_L1 (a0 : (List Int)) : Nat → Int → Option (Unit ⊕ Int)
  | 0, _ => none
  | n8+1, v1 =>
    if (decide (v1 < (List.length a0 : Int))) = true then
      (idx a0 v1).bind fun (x9 : Int) =>
      if (x9 != (0:Int)) = true then
        some (.inr x9)
      else
        F_cmp_Or_int_L1 a0 n8 (IntKind.wrap .i64 (v1 + (1:Int)))
    else
      some (.inl ())
def F_cmp_Or_int (a0 : (List Int)) : Option Int :=
  (F_cmp_Or_int_L1 a0 fuel (0:Int)).bind fun (o6 : (Unit ⊕ Int)) =>
  match o6 with
  | .inl () =>
      some (0:Int)
  | .inr r13 =>
      some r13
def F_cardinal_Compare (a0 : api_Count) (a1 : api_Count) : Option Int :=
  (F_cmp_Compare_uint64 a0.Hi a1.Hi).bind fun (r1 : Int) =>
  (F_cmp_Compare_uint64 a0.Lo a1.Lo).bind fun (r3 : Int) =>
  (F_cmp_Or_int [r1, r3]).bind fun (r5 : Int) =>
  some r5
def F_nsglaw5_CardinalLaws (a0 : api_Count) (a1 : api_Count) (a2 : api_Count) : Option Bool :=
  (F_cardinal_Add a0 a1).bind fun (r1 : api_Count) =>
  (F_cardinal_Add a1 a0).bind fun (r3 : api_Count) =>
  (some (!(eq_api_Count r1 r3))).bind fun (b5 : Bool) =>
  (if b5 = true then some true else
    (F_cardinal_Add a0 a1).bind fun (r7 : api_Count) =>
    (F_cardinal_Add r7 a2).bind fun (r9 : api_Count) =>
    (F_cardinal_Add a1 a2).bind fun (r11 : api_Count) =>
    (F_cardinal_Add a0 r11).bind fun (r13 : api_Count) =>
    some (!(eq_api_Count r9 r13))
   ).bind fun (v15 : Bool) =>
  (some v15).bind fun (b17 : Bool) =>
  (if b17 = true then some true else
    (F_cardinal_Add a0 (api_Count.mk (0:Int) (0:Int))).bind fun (r19 : api_Count) =>
    some (!(eq_api_Count r19 a0))
   ).bind fun (v21 : Bool) =>
  if v21 = true then
    some false
  else
    (F_cardinal_Add ({ a0 with Hi := (bShr .u64 a0.Hi (1:Int)) } : api_Count) ({ a1 with Hi := (bShr .u64 a1.Hi (1:Int)) } : api_Count)).bind fun (r28 : api_Count) =>
    (F_cardinal_Compare r28 ({ a0 with Hi := (bShr .u64 a0.Hi (1:Int)) } : api_Count)).bind fun (r30 : Int) =>
    (some (decide (r30 < (0:Int)))).bind fun (b32 : Bool) =>
    (if b32 = true then some true else
      (F_cardinal_Compare r28 ({ a1 with Hi := (bShr .u64 a1.Hi (1:Int)) } : api_Count)).bind fun (r34 : Int) =>
      some (decide (r34 < (0:Int)))
     ).bind fun (v36 : Bool) =>
    if v36 = true then
      some false
    else
      (F_cardinal_Compare ({ a0 with Hi := (bShr .u64 a0.Hi (1:Int)) } : api_Count) a2).bind fun (r40 : Int) =>
      (F_cardinal_Compare a2 ({ a0 with Hi := (bShr .u64 a0.Hi (1:Int)) } : api_Count)).bind fun (r42 : Int) =>
      (some (r40 == (IntKind.wrap .i64 (0 - r42)))).bind fun (b44 : Bool) =>
      (some (b44 && ((r40 == (0:Int)) == (eq_api_Count ({ a0 with Hi := (bShr .u64 a0.Hi (1:Int)) } : api_Count) a2)))).bind fun (b46 : Bool) =>
      (if b46 = true then
        (F_nsglaw5_sane).bind fun (r48 : Bool) =>
        some r48
       else some false).bind fun (v50 : Bool) =>
      some v50
def F_nsggen_New (a0 : (List Int)) : Option nsggen_Tape :=
  some (nsggen_Tape.mk a0 (0:Int))
def F_nsgref5_digits (a0 : api_Count) : Option (Arr4 Int) :=
  some (Arr4.mk (Int.tmod a0.Lo (4294967296:Int)) (IntKind.wrap .u64 (Int.tdiv a0.Lo (4294967296:Int))) (Int.tmod a0.Hi (4294967296:Int)) (IntKind.wrap .u64 (Int.tdiv a0.Hi (4294967296:Int))))
def F_nsgref5_count (a0 : (Arr4 Int)) : Option api_Count :=
  some (api_Count.mk (IntKind.wrap .u64 ((IntKind.wrap .u64 (a0.x3 * (4294967296:Int))) + a0.x2)) (IntKind.wrap .u64 ((IntKind.wrap .u64 (a0.x1 * (4294967296:Int))) + a0.x0)))
def F_nsggen_Mod (a0 : Int) (a1 : Int) : Option Int :=
  if (IntKind.wrap .u64 a1) ≠ 0 then
  some (IntKind.wrap .i64 (Int.tmod (IntKind.wrap .u64 a0) (IntKind.wrap .u64 a1)))
  else none
def F_nsggen_Tape_Next (a0 : nsggen_Tape) (a1 : Int) : Option (Int × nsggen_Tape) :=
  (some (decide (a1 ≤ (1:Int)))).bind fun (b1 : Bool) =>
  if (b1 || (decide (a0.f_i ≥ (List.length a0.f_l : Int)))) = true then
    some ((0:Int), a0)
  else
    (idx a0.f_l (IntKind.wrap .i64 ((IntKind.wrap .i64 (a0.f_i + (1:Int))) - (1:Int)))).bind fun (x3 : Int) =>
    (F_nsggen_Mod x3 a1).bind fun (r5 : Int) =>
    some (r5, ({ a0 with f_i := (IntKind.wrap .i64 (a0.f_i + (1:Int))) } : nsggen_Tape))
def F_nsgref3_Top (a0 : Int) : Option Int :=
  ((if (a0 == (0:Int)) = true then
    some (a0 == (0:Int))
  else
    some (a0 == (1:Int))).bind fun (v15 : Bool) =>
    if v15 = true then
      some (.inr (4294967295:Int))
    else
      if (a0 == (2:Int)) = true then
        some (.inr (255:Int))
      else
        (if (a0 == (3:Int)) = true then
          some (a0 == (3:Int))
        else
          some (a0 == (4:Int))).bind fun (v19 : Bool) =>
          if v19 = true then
            some (.inr (65535:Int))
          else
            some (.inl ())).bind fun (o12 : (Unit ⊕ Int)) =>
  match o12 with
  | .inl () =>
      some (0:Int)
  | .inr r25 =>
      some r25
def F_nsgref3_Full_L1 : Nat → (Arr5 api_Range) → Int → Option (Arr5 api_Range)
  | 0, _, _ => none
  | n18+1, v8, v9 =>
    if (decide (v9 < (5:Int))) = true then
      (F_nsgref3_Top v9).bind fun (r19 : Int) =>
      if 0 ≤ v9 ∧ v9 < 5 then
      F_nsgref3_Full_L1 n18 (Arr5.set v8 v9 ({ (Arr5.get v8 v9) with Hi := r19 } : api_Range)) (IntKind.wrap .i64 (v9 + (1:Int)))
      else none
    else
      some v8
def F_nsgref3_Full : Option (Arr5 api_Range) :=
  (F_nsgref3_Full_L1 fuel z_a5_api_Range (0:Int)).bind fun (v16 : (Arr5 api_Range)) =>
    some v16
def F_nsggen_Subnet (a0 : Int) : Option api_Prefix :=
  (F_nsggen_Mod a0 (6:Int)).bind fun (r1 : Int) =>
  (idx [(api_Prefix.mk (167772160:Int) (24:Int)), (api_Prefix.mk (167772416:Int) (24:Int)), (api_Prefix.mk (167772672:Int) (25:Int)), (api_Prefix.mk (167772800:Int) (26:Int)), (api_Prefix.mk (2886729728:Int) (16:Int)), (api_Prefix.mk (3232237321:Int) (32:Int))] r1).bind fun (x3 : api_Prefix) =>
  some x3
def F_nsgref1_size (a0 : Int) : Option Int :=
  if 0 ≤ (IntKind.wrap .u64 (IntKind.wrap .i64 ((32:Int) - a0))) then
  some (bShl .u64 (1:Int) (IntKind.wrap .u64 (IntKind.wrap .i64 ((32:Int) - a0))))
  else none
def F_nsgref1_Valid (a0 : api_Prefix) : Option Bool :=
  (some (decide (a0.Bits ≥ (0:Int)))).bind fun (b1 : Bool) =>
  (some (b1 && (decide (a0.Bits ≤ (32:Int))))).bind fun (b3 : Bool) =>
  (if b3 = true then
    (F_nsgref1_size a0.Bits).bind fun (r5 : Int) =>
    if r5 ≠ 0 then
    some ((Int.tmod (IntKind.wrap .u64 a0.Addr) r5) == (0:Int))
    else none
   else some false).bind fun (v8 : Bool) =>
  some v8
def F_nsgref1_Of (a0 : api_Prefix) : Option (api_Range × Bool) :=
  (F_nsgref1_Valid a0).bind fun (r1 : Bool) =>
  if (!r1) = true then
    some ((api_Range.mk (0:Int) (0:Int)), false)
  else
    (F_nsgref1_size a0.Bits).bind fun (r3 : Int) =>
    some ((api_Range.mk a0.Addr (IntKind.wrap .u32 (IntKind.wrap .u64 ((IntKind.wrap .u64 ((IntKind.wrap .u64 a0.Addr) + r3)) - (1:Int))))), true)
def F_nsggen_Tape_Addr (a0 : nsggen_Tape) : Option (Int × nsggen_Tape) :=
  (F_nsggen_Tape_Next a0 (5:Int)).bind fun (r1 : (Int × nsggen_Tape)) =>
  if (r1.1 == (4:Int)) = true then
    (F_nsggen_Tape_Next r1.2 (6:Int)).bind fun (r3 : (Int × nsggen_Tape)) =>
    (idx [(0:Int), (4294967295:Int), (3405803781:Int), (3325256705:Int), (168296448:Int), (2130706433:Int)] r3.1).bind fun (x5 : Int) =>
    some (x5, r3.2)
  else
    (F_nsggen_Tape_Next r1.2 (6:Int)).bind fun (r7 : (Int × nsggen_Tape)) =>
    (F_nsggen_Subnet r7.1).bind fun (r9 : api_Prefix) =>
    (F_nsgref1_Of r9).bind fun (r11 : (api_Range × Bool)) =>
    (F_nsggen_Tape_Next r7.2 (5:Int)).bind fun (r13 : (Int × nsggen_Tape)) =>
    (idx [r11.1.Lo, r11.1.Hi, (IntKind.wrap .u32 (r11.1.Lo + (5:Int))), (IntKind.wrap .u32 (r11.1.Hi + (1:Int))), (IntKind.wrap .u32 (r11.1.Lo - (1:Int)))] r13.1).bind fun (x15 : Int) =>
    some (x15, r13.2)
def F_nsggen_Tape_addresses (a0 : nsggen_Tape) : Option (api_Range × nsggen_Tape) :=
  (F_nsggen_Tape_Next a0 (4:Int)).bind fun (r1 : (Int × nsggen_Tape)) =>
  if (r1.1 == (0:Int)) = true then
    (F_nsggen_Tape_Next r1.2 (6:Int)).bind fun (r3 : (Int × nsggen_Tape)) =>
    (F_nsggen_Subnet r3.1).bind fun (r5 : api_Prefix) =>
    (F_nsgref1_Of r5).bind fun (r7 : (api_Range × Bool)) =>
    some (r7.1, r3.2)
  else
    if (r1.1 == (1:Int)) = true then
      (F_nsggen_Tape_Addr r1.2).bind fun (r9 : (Int × nsggen_Tape)) =>
      (F_nsggen_Tape_Addr r9.2).bind fun (r11 : (Int × nsggen_Tape)) =>
      some ((api_Range.mk (iMin r9.1 r11.1) (iMax r9.1 r11.1)), r11.2)
    else
      if (r1.1 == (2:Int)) = true then
        (F_nsggen_Tape_Addr r1.2).bind fun (r13 : (Int × nsggen_Tape)) =>
        some ((api_Range.mk r13.1 r13.1), r13.2)
      else
        some ((api_Range.mk (0:Int) (4294967295:Int)), r1.2)
def F_nsggen_Tape_Number (a0 : nsggen_Tape) (a1 : Int) : Option (Int × nsggen_Tape) :=
  (F_nsggen_Tape_Next a0 (17:Int)).bind fun (r1 : (Int × nsggen_Tape)) =>
  (idx [(0:Int), (1:Int), (2:Int), (5:Int), (7:Int), (8:Int), (9:Int), (15:Int), (16:Int), (80:Int), (255:Int), (256:Int), (1024:Int), (65535:Int), (IntKind.wrap .u32 (Int.tdiv a1 (2:Int))), (IntKind.wrap .u32 (a1 - (1:Int))), a1] r1.1).bind fun (x3 : Int) =>
  some ((iMin x3 a1), r1.2)
def F_nsggen_Tape_Range (a0 : nsggen_Tape) (a1 : Int) : Option (api_Range × nsggen_Tape) :=
  (F_nsggen_Tape_Number a0 a1).bind fun (r1 : (Int × nsggen_Tape)) =>
  (F_nsggen_Tape_Number r1.2 a1).bind fun (r3 : (Int × nsggen_Tape)) =>
  some ((api_Range.mk (iMin r1.1 r3.1) (iMax r1.1 r3.1)), r3.2)
def F_nsggen_Tape_Box_L1 : Nat → nsggen_Tape → (Arr5 api_Range) → Int → Option (nsggen_Tape × (Arr5 api_Range))
  | 0, _, _, _ => none
  | n95+1, v47, v48, v49 =>
    if (decide (v49 > (0:Int))) = true then
      ((F_nsggen_Tape_Next v47 (5:Int)).bind fun (r118 : (Int × nsggen_Tape)) =>
      if (r118.1 == (0:Int)) = true then
        (F_nsggen_Tape_addresses r118.2).bind fun (r120 : (api_Range × nsggen_Tape)) =>
        some (r120.2, ({ v48 with x0 := r120.1 } : (Arr5 api_Range)))
      else
        if (r118.1 == (1:Int)) = true then
          (F_nsggen_Tape_addresses r118.2).bind fun (r122 : (api_Range × nsggen_Tape)) =>
          some (r122.2, ({ v48 with x1 := r122.1 } : (Arr5 api_Range)))
        else
          if (r118.1 == (2:Int)) = true then
            (F_nsggen_Tape_Next r118.2 (6:Int)).bind fun (r124 : (Int × nsggen_Tape)) =>
            (idx [(6:Int), (17:Int), (1:Int), (0:Int), (7:Int), (255:Int)] r124.1).bind fun (x126 : Int) =>
            some (r124.2, ({ v48 with x2 := (api_Range.mk x126 x126) } : (Arr5 api_Range)))
          else
            if (r118.1 == (3:Int)) = true then
              (F_nsggen_Tape_Range r118.2 (65535:Int)).bind fun (r128 : (api_Range × nsggen_Tape)) =>
              some (r128.2, ({ v48 with x3 := r128.1 } : (Arr5 api_Range)))
            else
              (F_nsggen_Tape_Range r118.2 (65535:Int)).bind fun (r130 : (api_Range × nsggen_Tape)) =>
              some (r130.2, ({ v48 with x4 := r130.1 } : (Arr5 api_Range)))).bind fun (o116 : (nsggen_Tape × (Arr5 api_Range))) =>
      match o116 with
      | (v114, v115) =>
        F_nsggen_Tape_Box_L1 n95 v114 v115 (IntKind.wrap .i64 (v49 - (1:Int)))
    else
      some (v47, v48)
def F_nsggen_Tape_Box (a0 : nsggen_Tape) : Option ((Arr5 api_Range) × nsggen_Tape) :=
  (F_nsgref3_Full).bind fun (r1 : (Arr5 api_Range)) =>
  (F_nsggen_Tape_Next a0 (3:Int)).bind fun (r3 : (Int × nsggen_Tape)) =>
  (F_nsggen_Tape_Box_L1 fuel r3.2 r1 (IntKind.wrap .i64 ((1:Int) + r3.1))).bind fun (o93 : (nsggen_Tape × (Arr5 api_Range))) =>
  match o93 with
  | (v91, v92) =>
    some (v92, v91)
def F_nsggen_Tape_SpoilBox (a0 : nsggen_Tape) (a1 : (Arr5 api_Range)) : Option ((Arr5 api_Range) × nsggen_Tape) :=
  (F_nsggen_Tape_Next a0 (5:Int)).bind fun (r1 : (Int × nsggen_Tape)) =>
  ((F_nsggen_Tape_Next r1.2 (3:Int)).bind fun (r29 : (Int × nsggen_Tape)) =>
  if (r29.1 == (0:Int)) = true then
    if 0 ≤ r1.1 ∧ r1.1 < 5 then
    if 0 ≤ r1.1 ∧ r1.1 < 5 then
    if 0 ≤ r1.1 ∧ r1.1 < 5 then
    if 0 ≤ r1.1 ∧ r1.1 < 5 then
    some (r29.2, (Arr5.set (Arr5.set a1 r1.1 ({ (Arr5.get a1 r1.1) with Lo := (Arr5.get a1 r1.1).Hi } : api_Range)) r1.1 ({ (Arr5.get (Arr5.set a1 r1.1 ({ (Arr5.get a1 r1.1) with Lo := (Arr5.get a1 r1.1).Hi } : api_Range)) r1.1) with Hi := (Arr5.get a1 r1.1).Lo } : api_Range)))
    else none
    else none
    else none
    else none
  else
    if (r29.1 == (1:Int)) = true then
      if 0 ≤ r1.1 ∧ r1.1 < 5 then
      some (r29.2, (Arr5.set a1 r1.1 ({ (Arr5.get a1 r1.1) with Hi := (4294967295:Int) } : api_Range)))
      else none
    else
      if 0 ≤ r1.1 ∧ r1.1 < 5 then
      some (r29.2, (Arr5.set a1 r1.1 (api_Range.mk (1:Int) (0:Int))))
      else none).bind fun (o27 : (nsggen_Tape × (Arr5 api_Range))) =>
  match o27 with
  | (v25, v26) =>
    some (v26, v25)
def F_nsggen_Tape_Boxes_L1 (a2 : Bool) : Nat → nsggen_Tape → (List (Arr5 api_Range)) → Int → Option (nsggen_Tape × (List (Arr5 api_Range)))
  | 0, _, _, _ => none
  | n137+1, v67, v68, v69 =>
    if (decide (v69 > (0:Int))) = true then
      ((F_nsggen_Tape_Box v67).bind fun (r171 : ((Arr5 api_Range) × nsggen_Tape)) =>
      ((some a2).bind fun (b188 : Bool) =>
      (if b188 = true then
        (F_nsggen_Tape_Next r171.2 (8:Int)).bind fun (r190 : (Int × nsggen_Tape)) =>
        some ((r190.1 == (7:Int)), r190.2)
       else some (false, r171.2)).bind fun (v192 : Bool × nsggen_Tape) =>
      if v192.1 = true then
        (F_nsggen_Tape_SpoilBox v192.2 r171.1).bind fun (r196 : ((Arr5 api_Range) × nsggen_Tape)) =>
        some (r196.2, r196.1)
      else
        some (v192.2, r171.1)).bind fun (o186 : (nsggen_Tape × (Arr5 api_Range))) =>
      match o186 with
      | (v184, v185) =>
        if List.length v68 + List.length [v185] ≤ lim then
        some (v184, (v68 ++ [v185]))
        else none).bind fun (o169 : (nsggen_Tape × (List (Arr5 api_Range)))) =>
      match o169 with
      | (v167, v168) =>
        F_nsggen_Tape_Boxes_L1 a2 n137 v167 v168 (IntKind.wrap .i64 (v69 - (1:Int)))
    else
      some (v67, v68)
def F_nsggen_Tape_Boxes (a0 : nsggen_Tape) (a1 : Int) (a2 : Bool) : Option ((List (Arr5 api_Range)) × nsggen_Tape) :=
  (F_nsggen_Tape_Next a0 (IntKind.wrap .i64 (a1 + (1:Int)))).bind fun (r1 : (Int × nsggen_Tape)) =>
  (F_nsggen_Tape_Boxes_L1 a2 fuel r1.2 ([] : (List (Arr5 api_Range))) r1.1).bind fun (o135 : (nsggen_Tape × (List (Arr5 api_Range)))) =>
  match o135 with
  | (v133, v134) =>
    some (v134, v133)
def F_nsggen_Tape_Header (a0 : nsggen_Tape) : Option (api_Header × nsggen_Tape) :=
  (F_nsggen_Tape_Addr a0).bind fun (r1 : (Int × nsggen_Tape)) =>
  (F_nsggen_Tape_Addr r1.2).bind fun (r3 : (Int × nsggen_Tape)) =>
  (F_nsggen_Tape_Next r3.2 (6:Int)).bind fun (r5 : (Int × nsggen_Tape)) =>
  (idx [(6:Int), (17:Int), (1:Int), (0:Int), (7:Int), (255:Int)] r5.1).bind fun (x7 : Int) =>
  (F_nsggen_Tape_Number r5.2 (65535:Int)).bind fun (r9 : (Int × nsggen_Tape)) =>
  (F_nsggen_Tape_Number r9.2 (65535:Int)).bind fun (r11 : (Int × nsggen_Tape)) =>
  some ((api_Header.mk r1.1 r3.1 x7 (IntKind.wrap .u16 r9.1) (IntKind.wrap .u16 r11.1)), r11.2)
def F_nsgref3_Header (a0 : (Arr5 Int)) : Option api_Header :=
  some (api_Header.mk a0.x0 a0.x1 (IntKind.wrap .u8 a0.x2) (IntKind.wrap .u16 a0.x3) (IntKind.wrap .u16 a0.x4))
def F_nsggen_Tape_Near_L1 (x13 : (Arr5 api_Range)) : Nat → nsggen_Tape → (Arr5 Int) → Int → Option (nsggen_Tape × (Arr5 Int))
  | 0, _, _, _ => none
  | n73+1, v41, v42, v43 =>
    if (decide (v43 < (5:Int))) = true then
      if 0 ≤ v43 ∧ v43 < 5 then
      if 0 ≤ v43 ∧ v43 < 5 then
      if 0 ≤ v43 ∧ v43 < 5 then
      if 0 ≤ v43 ∧ v43 < 5 then
      if 0 ≤ v43 ∧ v43 < 5 then
      if 0 ≤ v43 ∧ v43 < 5 then
      if 0 ≤ v43 ∧ v43 < 5 then
      (F_nsggen_Tape_Next v41 (5:Int)).bind fun (r81 : (Int × nsggen_Tape)) =>
      (idx [(Arr5.get x13 v43).Lo, (Arr5.get x13 v43).Hi, (IntKind.wrap .u32 ((Arr5.get x13 v43).Lo - (1:Int))), (IntKind.wrap .u32 ((Arr5.get x13 v43).Hi + (1:Int))), (IntKind.wrap .u32 ((Arr5.get x13 v43).Lo + (IntKind.wrap .u32 (Int.tdiv (IntKind.wrap .u32 ((Arr5.get x13 v43).Hi - (Arr5.get x13 v43).Lo)) (2:Int)))))] r81.1).bind fun (x83 : Int) =>
      if 0 ≤ v43 ∧ v43 < 5 then
      if 0 ≤ v43 ∧ v43 < 5 then
      (F_nsgref3_Top v43).bind fun (r91 : Int) =>
      if 0 ≤ v43 ∧ v43 < 5 then
      F_nsggen_Tape_Near_L1 x13 n73 r81.2 (Arr5.set (Arr5.set v42 v43 x83) v43 (iMin (Arr5.get (Arr5.set v42 v43 x83) v43) r91)) (IntKind.wrap .i64 (v43 + (1:Int)))
      else none
      else none
      else none
      else none
      else none
      else none
      else none
      else none
      else none
      else none
    else
      some (v41, v42)
def F_nsggen_Tape_Near (a0 : nsggen_Tape) (a1 : (List (Arr5 api_Range))) : Option (api_Header × nsggen_Tape) :=
  (some ((List.length a1 : Int) == (0:Int))).bind fun (b1 : Bool) =>
  (if b1 = true then some (true, a0) else
    (F_nsggen_Tape_Next a0 (4:Int)).bind fun (r3 : (Int × nsggen_Tape)) =>
    some ((r3.1 == (3:Int)), r3.2)
   ).bind fun (v5 : Bool × nsggen_Tape) =>
  if v5.1 = true then
    (F_nsggen_Tape_Header v5.2).bind fun (r9 : (api_Header × nsggen_Tape)) =>
    some (r9.1, r9.2)
  else
    (F_nsggen_Tape_Next v5.2 (List.length a1 : Int)).bind fun (r11 : (Int × nsggen_Tape)) =>
    (idx a1 r11.1).bind fun (x13 : (Arr5 api_Range)) =>
    (F_nsggen_Tape_Near_L1 x13 fuel r11.2 z_a5_u32 (0:Int)).bind fun (o71 : (nsggen_Tape × (Arr5 Int))) =>
    match o71 with
    | (v69, v70) =>
      (F_nsgref3_Header v70).bind fun (r99 : api_Header) =>
      some (r99, v69)
def F_box_Valid_L1 (a0 : (Arr5 api_Range)) : Nat → Int → Option (Unit ⊕ Bool)
  | 0, _ => none
  | n14+1, v1 =>
    if (decide (v1 < (5:Int))) = true then
      if 0 ≤ v1 ∧ v1 < 5 then
      (some (decide ((Arr5.get a0 v1).Lo > (Arr5.get a0 v1).Hi))).bind fun (b16 : Bool) =>
      (if b16 = true then some true else
        if 0 ≤ v1 ∧ v1 < 5 then
        some (decide ((Arr5.get a0 v1).Hi > (Arr5.get glob_box_tops v1)))
        else none
       ).bind fun (v19 : Bool) =>
      if v19 = true then
        some (.inr false)
      else
        F_box_Valid_L1 a0 n14 (IntKind.wrap .i64 (v1 + (1:Int)))
      else none
    else
      some (.inl ())
def F_box_Valid (a0 : (Arr5 api_Range)) : Option Bool :=
  (F_box_Valid_L1 a0 fuel (0:Int)).bind fun (o12 : (Unit ⊕ Bool)) =>
  match o12 with
  | .inl () =>
      some true
  | .inr r25 =>
      some r25
def F_packetset_valid_1 (a0 : (Arr5 api_Range)) : Option Bool :=
  (F_box_Valid a0).bind fun (r1 : Bool) =>
  some (!r1)
def F_slices_IndexFunc_api_Box_api_Box_f84_L1 (a0 : Nat) (a1 : (List (Arr5 api_Range))) : Nat → Int → Option (Unit ⊕ Int)
  | 0, _ => none
  | n10+1, v1 =>
    if (decide (v1 < (a0 : Int))) = true then
      (idxn a0 a1 v1).bind fun (x11 : (Arr5 api_Range)) =>
      (F_packetset_valid_1 x11).bind fun (r13 : Bool) =>
      if r13 = true then
        some (.inr v1)
      else
        F_slices_IndexFunc_api_Box_api_Box_f84_L1 a0 a1 n10 (IntKind.wrap .i64 (v1 + (1:Int)))
    else
      some (.inl ())
def F_slices_IndexFunc_api_Box_api_Box_f84 (a0 : Nat) (a1 : (List (Arr5 api_Range))) : Option Int :=
  (F_slices_IndexFunc_api_Box_api_Box_f84_L1 a0 a1 fuel (0:Int)).bind fun (o8 : (Unit ⊕ Int)) =>
  match o8 with
  | .inl () =>
      some (-1:Int)
  | .inr r17 =>
      some r17
def F_slices_DeleteFunc_api_Box_api_Box_f84_L1 (a0 : Nat) : Nat → (List (Arr5 api_Range)) → Int → Int → Option ((List (Arr5 api_Range)) × Int)
  | 0, _, _, _ => none
  | n50+1, v24, v25, v26 =>
    if (decide (v26 < (a0 : Int))) = true then
      ((idxn a0 v24 v26).bind fun (x62 : (Arr5 api_Range)) =>
      (F_packetset_valid_1 x62).bind fun (r64 : Bool) =>
      if (!r64) = true then
        (idxn a0 v24 v25).bind fun (x66 : (Arr5 api_Range)) =>
        some ((List.set v24 (Int.toNat v25) x62), (IntKind.wrap .i64 (v25 + (1:Int))))
      else
        some (v24, v25)).bind fun (o60 : ((List (Arr5 api_Range)) × Int)) =>
      match o60 with
      | (v58, v59) =>
        F_slices_DeleteFunc_api_Box_api_Box_f84_L1 a0 n50 v58 v59 (IntKind.wrap .i64 (v26 + (1:Int)))
    else
      some (v24, v25)
def F_slices_DeleteFunc_api_Box_api_Box_f84 (a0 : Nat) (a1 : (List (Arr5 api_Range))) : Option (Nat × (List (Arr5 api_Range))) :=
  (F_slices_IndexFunc_api_Box_api_Box_f84 a0 a1).bind fun (r1 : Int) =>
  if (r1 == (-1:Int)) = true then
    some (a0, a1)
  else
    (F_slices_DeleteFunc_api_Box_api_Box_f84_L1 a0 fuel a1 r1 (IntKind.wrap .i64 (r1 + (1:Int)))).bind fun (o48 : ((List (Arr5 api_Range)) × Int)) =>
    match o48 with
    | (v46, v47) =>
      if 0 ≤ v47 ∧ v47 ≤ (a0 : Int) ∧ (a0 : Int) ≤ (a0 : Int) then
      if Int.toNat v47 + (Int.toNat (a0 : Int) - Int.toNat v47) ≤ List.length v46 then
      if 0 ≤ (0:Int) ∧ (0:Int) ≤ v47 ∧ v47 ≤ (a0 : Int) then
      some ((Int.toNat v47), (List.take (Int.toNat v47) v46 ++ List.replicate (Int.toNat (a0 : Int) - Int.toNat v47) z_a5_api_Range ++ List.drop (Int.toNat v47 + (Int.toNat (a0 : Int) - Int.toNat v47)) v46))
      else none
      else none
      else none
def F_packetset_valid (a0 : (List (Arr5 api_Range))) : Option (List (Arr5 api_Range)) :=
  if List.length a0 ≤ lim then
  if a0 ≠ [] then
  (F_slices_DeleteFunc_api_Box_api_Box_f84 (List.length a0) a0).bind fun (r2 : (Nat × (List (Arr5 api_Range)))) =>
  if List.length r2.2 = List.length a0 then
  if r2.1 ≤ List.length r2.2 then
  some (List.take r2.1 r2.2)
  else none
  else none
  else none
  else none
def F_packetset_rests_L2 (a0 : Int) (v29 : Int) : Nat → (List (Arr5 api_Range)) → Int → Option (List (Arr5 api_Range))
  | 0, _, _ => none
  | n75+1, v65, v66 =>
    if (decide (v66 ≤ a0)) = true then
      (idx v65 v29).bind fun (x76 : (Arr5 api_Range)) =>
      if 0 ≤ v66 ∧ v66 < 5 then
      F_packetset_rests_L2 a0 v29 n75 (List.set v65 (Int.toNat v29) (Arr5.set x76 v66 (api_Range.mk (0:Int) (0:Int)))) (IntKind.wrap .i64 (v66 + (1:Int)))
      else none
    else
      some v65
def F_packetset_rests_L1 (a0 : Int) (a1 : (List (Arr5 api_Range))) : Nat → (List (Arr5 api_Range)) → Int → Option (List (Arr5 api_Range))
  | 0, _, _ => none
  | n57+1, v28, v29 =>
    if (decide (v29 < (List.length a1 : Int))) = true then
      (F_packetset_rests_L2 a0 v29 fuel v28 (0:Int)).bind fun (v73 : (List (Arr5 api_Range))) =>
        F_packetset_rests_L1 a0 a1 n57 v73 (IntKind.wrap .i64 (v29 + (1:Int)))
    else
      some v28
def F_packetset_rests (a0 : Int) (a1 : (List (Arr5 api_Range))) : Option (List (Arr5 api_Range)) :=
  if List.length a1 ≤ lim then
  (F_packetset_rests_L1 a0 a1 fuel a1 (0:Int)).bind fun (v55 : (List (Arr5 api_Range))) =>
    some v55
  else none
def F_slices_Equal_api_Box_api_Box_L1 (a0 : (List (Arr5 api_Range))) (a1 : (List (Arr5 api_Range))) : Nat → Int → Option (Unit ⊕ Bool)
  | 0, _ => none
  | n10+1, v1 =>
    if (decide (v1 < (List.length a0 : Int))) = true then
      (idx a0 v1).bind fun (x11 : (Arr5 api_Range)) =>
      (idx a1 v1).bind fun (x13 : (Arr5 api_Range)) =>
      if (!(eq_a5_api_Range x11 x13)) = true then
        some (.inr false)
      else
        F_slices_Equal_api_Box_api_Box_L1 a0 a1 n10 (IntKind.wrap .i64 (v1 + (1:Int)))
    else
      some (.inl ())
def F_slices_Equal_api_Box_api_Box (a0 : (List (Arr5 api_Range))) (a1 : (List (Arr5 api_Range))) : Option Bool :=
  if ((List.length a0 : Int) != (List.length a1 : Int)) = true then
    some false
  else
    (F_slices_Equal_api_Box_api_Box_L1 a0 a1 fuel (0:Int)).bind fun (o8 : (Unit ⊕ Bool)) =>
    match o8 with
    | .inl () =>
        some true
    | .inr r17 =>
        some r17
def F_packetset_divided_L2 (a0 : Int) (v80 : (List (Arr5 api_Range))) : Nat → Int → Option Int
  | 0, _ => none
  | n178+1, v162 =>
    (some (decide (v162 < (List.length v80 : Int)))).bind fun (b179 : Bool) =>
    (if b179 = true then
      (idx v80 v162).bind fun (x181 : (Arr5 api_Range)) =>
      if 0 ≤ a0 ∧ a0 < 5 then
      (idx v80 (0:Int)).bind fun (x184 : (Arr5 api_Range)) =>
      if 0 ≤ a0 ∧ a0 < 5 then
      some (eq_api_Range (Arr5.get x181 a0) (Arr5.get x184 a0))
      else none
      else none
     else some false).bind fun (v187 : Bool) =>
    if v187 = true then
      F_packetset_divided_L2 a0 v80 n178 (IntKind.wrap .i64 (v162 + (1:Int)))
    else
      some v162
def F_packetset_divided_L1 (a0 : Int) (z0 : Int → (List (Arr5 api_Range)) → Option Bool) : Nat → packetset_group → (List (Arr5 api_Range)) → Option (packetset_group ⊕ Bool)
  | 0, _, _ => none
  | n161+1, v79, v80 =>
    if (decide ((List.length v80 : Int) > (0:Int))) = true then
      (F_packetset_divided_L2 a0 v80 fuel (1:Int)).bind fun (v176 : Int) =>
        (idx v80 (0:Int)).bind fun (x192 : (Arr5 api_Range)) =>
        if 0 ≤ a0 ∧ a0 < 5 then
        if 0 ≤ (0:Int) ∧ (0:Int) ≤ v176 ∧ v176 ≤ (List.length v80 : Int) then
        (F_packetset_rests a0 (List.drop (Int.toNat (0:Int)) (List.take (Int.toNat v176) v80))).bind fun (r196 : (List (Arr5 api_Range))) =>
        if 0 ≤ (0:Int) ∧ (0:Int) ≤ v176 ∧ v176 ≤ (List.length v80 : Int) then
        (z0 (IntKind.wrap .i64 (a0 + (1:Int))) (List.drop (Int.toNat (0:Int)) (List.take (Int.toNat v176) v80))).bind fun (r199 : Bool) =>
        if (!r199) = true then
          some (.inr false)
        else
          (if (decide ((List.length v79.f_rest : Int) > (0:Int))) = true then
            (some (decide ((Arr5.get x192 a0).Lo ≤ v79.f_values.Hi))).bind fun (b219 : Bool) =>
            (if b219 = true then some true else
              (some ((Arr5.get x192 a0).Lo == (IntKind.wrap .u32 (v79.f_values.Hi + (1:Int))))).bind fun (b221 : Bool) =>
              (if b221 = true then
                (F_slices_Equal_api_Box_api_Box r196 v79.f_rest).bind fun (r223 : Bool) =>
                some r223
               else some false).bind fun (v225 : Bool) =>
              some v225
             ).bind fun (v227 : Bool) =>
            if v227 = true then
              some (.inr false)
            else
              some (.inl ())
          else
            some (.inl ())).bind fun (o217 : (Unit ⊕ Bool)) =>
          match o217 with
          | .inl () =>
              if 0 ≤ v176 ∧ v176 ≤ (List.length v80 : Int) ∧ (List.length v80 : Int) ≤ (List.length v80 : Int) then
              F_packetset_divided_L1 a0 z0 n161 (packetset_group.mk (Arr5.get x192 a0) r196) (List.drop (Int.toNat v176) (List.take (Int.toNat (List.length v80 : Int)) v80))
              else none
          | .inr r236 =>
              some (.inr r236)
        else none
        else none
        else none
    else
      some (.inl v79)
def F_packetset_divided : Nat → Int → (List (Arr5 api_Range)) → Option Bool
  | 0, _, _ => none
  | nr+1, a0, a1 =>
    if (a0 == (5:Int)) = true then
      some (decide ((List.length a1 : Int) ≤ (1:Int)))
    else
      (F_packetset_divided_L1 a0 (F_packetset_divided nr) fuel z_packetset_group a1).bind fun (o159 : (packetset_group ⊕ Bool)) =>
      match o159 with
      | .inl v158 =>
          some true
      | .inr r239 =>
          some r239
def F_packetset_Valid (a0 : (List (Arr5 api_Range))) : Option Bool :=
  (some (decide ((List.length a0 : Int) ≤ (4096:Int)))).bind fun (b1 : Bool) =>
  (if b1 = true then
    (F_packetset_valid a0).bind fun (r3 : (List (Arr5 api_Range))) =>
    some ((List.length r3 : Int) == (List.length a0 : Int))
   else some false).bind fun (v5 : Bool) =>
  (some v5).bind fun (b7 : Bool) =>
  (if b7 = true then
    (F_packetset_divided fuel (0:Int) a0).bind fun (r9 : Bool) =>
    some r9
   else some false).bind fun (v11 : Bool) =>
  some v11
def F_packetset_either (a0 : Bool) (a1 : Bool) : Option Bool :=
  (some a0).bind fun (b1 : Bool) =>
  some (b1 || a1)
def F_box_Top (a0 : Int) : Option Int :=
  (some (decide (a0 < (0:Int)))).bind fun (b1 : Bool) =>
  if (b1 || (decide (a0 ≥ (5:Int)))) = true then
    some (0:Int)
  else
    if 0 ≤ a0 ∧ a0 < 5 then
    some (Arr5.get glob_box_tops a0)
    else none
def F_math_bits_Len64 (a0 : Int) : Option Int :=
  (if (decide (a0 ≥ (4294967296:Int))) = true then
    some ((bShr .u64 a0 (32:Int)), (32:Int))
  else
    some (a0, (0:Int))).bind fun (o4 : (Int × Int)) =>
  match o4 with
  | (v2, v3) =>
    (if (decide (v2 ≥ (65536:Int))) = true then
      some ((bShr .u64 v2 (16:Int)), (IntKind.wrap .i64 (v3 + (16:Int))))
    else
      some (v2, v3)).bind fun (o10 : (Int × Int)) =>
    match o10 with
    | (v8, v9) =>
      (if (decide (v8 ≥ (256:Int))) = true then
        some ((bShr .u64 v8 (8:Int)), (IntKind.wrap .i64 (v9 + (8:Int))))
      else
        some (v8, v9)).bind fun (o16 : (Int × Int)) =>
      match o16 with
      | (v14, v15) =>
        (sidx ⟨#[0,1,2,2,3,3,3,3,4,4,4,4,4,4,4,4,5,5,5,5,5,5,5,5,5,5,5,5,5,5,5,5,6,6,6,6,6,6,6,6,6,6,6,6,6,6,6,6,6,6,6,6,6,6,6,6,6,6,6,6,6,6,6,6,7,7,7,7,7,7,7,7,7,7,7,7,7,7,7,7,7,7,7,7,7,7,7,7,7,7,7,7,7,7,7,7,7,7,7,7,7,7,7,7,7,7,7,7,7,7,7,7,7,7,7,7,7,7,7,7,7,7,7,7,7,7,7,7,8,8,8,8,8,8,8,8,8,8,8,8,8,8,8,8,8,8,8,8,8,8,8,8,8,8,8,8,8,8,8,8,8,8,8,8,8,8,8,8,8,8,8,8,8,8,8,8,8,8,8,8,8,8,8,8,8,8,8,8,8,8,8,8,8,8,8,8,8,8,8,8,8,8,8,8,8,8,8,8,8,8,8,8,8,8,8,8,8,8,8,8,8,8,8,8,8,8,8,8,8,8,8,8,8,8,8,8,8,8,8,8,8,8,8,8,8,8,8,8,8,8,8,8,8,8,8,8]⟩ (IntKind.wrap .u8 v14)).bind fun (x19 : Int) =>
        some (IntKind.wrap .i64 (v15 + (IntKind.wrap .i64 x19)))
def F_math_bits_Len (a0 : Int) : Option Int :=
  (F_math_bits_Len64 a0).bind fun (r1 : Int) =>
  some r1
def F_cmp_Less_uint64 (a0 : Int) (a1 : Int) : Option Bool :=
  (F_cmp_isNaN_uint64 a0).bind fun (r1 : Bool) =>
  (some r1).bind fun (b3 : Bool) =>
  (if b3 = true then
    (F_cmp_isNaN_uint64 a1).bind fun (r5 : Bool) =>
    some (!r5)
   else some false).bind fun (v7 : Bool) =>
  (some v7).bind fun (b9 : Bool) =>
  some (b9 || (decide (a0 < a1)))
def F_slices_insertionSortOrdered_uint64_L2 (a0 : Nat) (a2 : Int) : Nat → (List Int) → Int → Option (List Int)
  | 0, _, _ => none
  | n194+1, v169, v170 =>
    (some (decide (v170 > a2))).bind fun (b195 : Bool) =>
    (if b195 = true then
      (idxn a0 v169 v170).bind fun (x197 : Int) =>
      (idxn a0 v169 (IntKind.wrap .i64 (v170 - (1:Int)))).bind fun (x199 : Int) =>
      (F_cmp_Less_uint64 x197 x199).bind fun (r201 : Bool) =>
      some r201
     else some false).bind fun (v203 : Bool) =>
    if v203 = true then
      (idxn a0 v169 (IntKind.wrap .i64 (v170 - (1:Int)))).bind fun (x207 : Int) =>
      (idxn a0 v169 v170).bind fun (x209 : Int) =>
      (idxn a0 v169 v170).bind fun (x211 : Int) =>
      (idxn a0 (List.set v169 (Int.toNat v170) x207) (IntKind.wrap .i64 (v170 - (1:Int)))).bind fun (x213 : Int) =>
      F_slices_insertionSortOrdered_uint64_L2 a0 a2 n194 (List.set (List.set v169 (Int.toNat v170) x207) (Int.toNat (IntKind.wrap .i64 (v170 - (1:Int)))) x209) (IntKind.wrap .i64 (v170 - (1:Int)))
    else
      some v169
def F_slices_insertionSortOrdered_uint64_L1 (a0 : Nat) (a2 : Int) (a3 : Int) : Nat → (List Int) → Int → Option (List Int)
  | 0, _, _ => none
  | n146+1, v72, v73 =>
    if (decide (v73 < a3)) = true then
      (F_slices_insertionSortOrdered_uint64_L2 a0 a2 fuel v72 v73).bind fun (v192 : (List Int)) =>
        F_slices_insertionSortOrdered_uint64_L1 a0 a2 a3 n146 v192 (IntKind.wrap .i64 (v73 + (1:Int)))
    else
      some v72
def F_slices_insertionSortOrdered_uint64 (a0 : Nat) (a1 : (List Int)) (a2 : Int) (a3 : Int) : Option (List Int) :=
  (F_slices_insertionSortOrdered_uint64_L1 a0 a2 a3 fuel a1 (IntKind.wrap .i64 (a2 + (1:Int)))).bind fun (v144 : (List Int)) =>
    some v144
def F_slices_siftDownOrdered_uint64_L1 (a0 : Nat) (a3 : Int) (a4 : Int) : Nat → (List Int) → Int → Option ((List Int) ⊕ (List Int))
  | 0, _, _ => none
  | n95+1, v46, v47 =>
    if (decide ((IntKind.wrap .i64 ((IntKind.wrap .i64 ((2:Int) * v47)) + (1:Int))) ≥ a3)) = true then
      some (.inl v46)
    else
      ((some (decide ((IntKind.wrap .i64 ((IntKind.wrap .i64 ((IntKind.wrap .i64 ((2:Int) * v47)) + (1:Int))) + (1:Int))) < a3))).bind fun (b111 : Bool) =>
      (if b111 = true then
        (idxn a0 v46 (IntKind.wrap .i64 (a4 + (IntKind.wrap .i64 ((IntKind.wrap .i64 ((2:Int) * v47)) + (1:Int)))))).bind fun (x113 : Int) =>
        (idxn a0 v46 (IntKind.wrap .i64 ((IntKind.wrap .i64 (a4 + (IntKind.wrap .i64 ((IntKind.wrap .i64 ((2:Int) * v47)) + (1:Int))))) + (1:Int)))).bind fun (x115 : Int) =>
        (F_cmp_Less_uint64 x113 x115).bind fun (r117 : Bool) =>
        some r117
       else some false).bind fun (v119 : Bool) =>
      if v119 = true then
        some (IntKind.wrap .i64 ((IntKind.wrap .i64 ((IntKind.wrap .i64 ((2:Int) * v47)) + (1:Int))) + (1:Int)))
      else
        some (IntKind.wrap .i64 ((IntKind.wrap .i64 ((2:Int) * v47)) + (1:Int)))).bind fun (v109 : Int) =>
        (idxn a0 v46 (IntKind.wrap .i64 (a4 + v47))).bind fun (x124 : Int) =>
        (idxn a0 v46 (IntKind.wrap .i64 (a4 + v109))).bind fun (x126 : Int) =>
        (F_cmp_Less_uint64 x124 x126).bind fun (r128 : Bool) =>
        if (!r128) = true then
          some (.inr v46)
        else
          (idxn a0 v46 (IntKind.wrap .i64 (a4 + v109))).bind fun (x130 : Int) =>
          (idxn a0 v46 (IntKind.wrap .i64 (a4 + v47))).bind fun (x132 : Int) =>
          (idxn a0 v46 (IntKind.wrap .i64 (a4 + v47))).bind fun (x134 : Int) =>
          (idxn a0 (List.set v46 (Int.toNat (IntKind.wrap .i64 (a4 + v47))) x130) (IntKind.wrap .i64 (a4 + v109))).bind fun (x136 : Int) =>
          F_slices_siftDownOrdered_uint64_L1 a0 a3 a4 n95 (List.set (List.set v46 (Int.toNat (IntKind.wrap .i64 (a4 + v47))) x130) (Int.toNat (IntKind.wrap .i64 (a4 + v109))) x132) v109
def F_slices_siftDownOrdered_uint64 (a0 : Nat) (a1 : (List Int)) (a2 : Int) (a3 : Int) (a4 : Int) : Option (List Int) :=
  (F_slices_siftDownOrdered_uint64_L1 a0 a3 a4 fuel a1 a2).bind fun (o93 : ((List Int) ⊕ (List Int))) =>
  match o93 with
  | .inl v92 =>
      some v92
  | .inr r140 =>
      some r140
def F_slices_heapSortOrdered_uint64_L1 (a0 : Nat) (a2 : Int) (a3 : Int) : Nat → (List Int) → Int → Option (List Int)
  | 0, _, _ => none
  | n12+1, v5, v6 =>
    if (decide (v6 ≥ (0:Int))) = true then
      (F_slices_siftDownOrdered_uint64 a0 v5 v6 (IntKind.wrap .i64 (a3 - a2)) a2).bind fun (r13 : (List Int)) =>
      F_slices_heapSortOrdered_uint64_L1 a0 a2 a3 n12 r13 (IntKind.wrap .i64 (v6 - (1:Int)))
    else
      some v5
def F_slices_heapSortOrdered_uint64_L2 (a0 : Nat) (a2 : Int) : Nat → (List Int) → Int → Option (List Int)
  | 0, _, _ => none
  | n43+1, v28, v29 =>
    if (decide (v29 ≥ (0:Int))) = true then
      (idxn a0 v28 (IntKind.wrap .i64 (a2 + v29))).bind fun (x44 : Int) =>
      (idxn a0 v28 a2).bind fun (x46 : Int) =>
      (idxn a0 v28 a2).bind fun (x48 : Int) =>
      (idxn a0 (List.set v28 (Int.toNat a2) x44) (IntKind.wrap .i64 (a2 + v29))).bind fun (x50 : Int) =>
      (F_slices_siftDownOrdered_uint64 a0 (List.set (List.set v28 (Int.toNat a2) x44) (Int.toNat (IntKind.wrap .i64 (a2 + v29))) x46) (0:Int) v29 a2).bind fun (r52 : (List Int)) =>
      F_slices_heapSortOrdered_uint64_L2 a0 a2 n43 r52 (IntKind.wrap .i64 (v29 - (1:Int)))
    else
      some v28
def F_slices_heapSortOrdered_uint64 (a0 : Nat) (a1 : (List Int)) (a2 : Int) (a3 : Int) : Option (List Int) :=
  (F_slices_heapSortOrdered_uint64_L1 a0 a2 a3 fuel a1 (IntKind.wrap .i64 (Int.tdiv (IntKind.wrap .i64 ((IntKind.wrap .i64 (a3 - a2)) - (1:Int))) (2:Int)))).bind fun (v10 : (List Int)) =>
    (F_slices_heapSortOrdered_uint64_L2 a0 a2 fuel v10 (IntKind.wrap .i64 ((IntKind.wrap .i64 (a3 - a2)) - (1:Int)))).bind fun (v41 : (List Int)) =>
      some v41
def F_slices_nextPowerOfTwo (a0 : Int) : Option Int :=
  (F_math_bits_Len (IntKind.wrap .u64 a0)).bind fun (r1 : Int) =>
  if 0 ≤ r1 then
  some (bShl .u64 (1:Int) r1)
  else none
def F_slices_xorshift_Next (a0 : Int) : Option (Int × Int) :=
  some ((bXor .u64 (bXor .u64 (bXor .u64 a0 (bShl .u64 a0 (13:Int))) (bShr .u64 (bXor .u64 a0 (bShl .u64 a0 (13:Int))) (7:Int))) (bShl .u64 (bXor .u64 (bXor .u64 a0 (bShl .u64 a0 (13:Int))) (bShr .u64 (bXor .u64 a0 (bShl .u64 a0 (13:Int))) (7:Int))) (17:Int))), (bXor .u64 (bXor .u64 (bXor .u64 a0 (bShl .u64 a0 (13:Int))) (bShr .u64 (bXor .u64 a0 (bShl .u64 a0 (13:Int))) (7:Int))) (bShl .u64 (bXor .u64 (bXor .u64 a0 (bShl .u64 a0 (13:Int))) (bShr .u64 (bXor .u64 a0 (bShl .u64 a0 (13:Int))) (7:Int))) (17:Int))))
def F_slices_breakPatternsOrdered_uint64_L1 (a0 : Nat) (a2 : Int) (a3 : Int) (r1 : Int) : Nat → (List Int) → Int → Int → Option ((List Int) × Int)
  | 0, _, _, _ => none
  | n77+1, v37, v38, v39 =>
    if (decide (v39 ≤ (IntKind.wrap .i64 ((IntKind.wrap .i64 (a2 + (IntKind.wrap .i64 ((IntKind.wrap .i64 (Int.tdiv (IntKind.wrap .i64 (a3 - a2)) (4:Int))) * (2:Int))))) + (1:Int))))) = true then
      ((F_slices_xorshift_Next v38).bind fun (r96 : (Int × Int)) =>
      (if (decide ((IntKind.wrap .i64 (bAnd .u64 r96.1 (IntKind.wrap .u64 (r1 - (1:Int))))) ≥ (IntKind.wrap .i64 (a3 - a2)))) = true then
        some (IntKind.wrap .i64 ((IntKind.wrap .i64 (bAnd .u64 r96.1 (IntKind.wrap .u64 (r1 - (1:Int))))) - (IntKind.wrap .i64 (a3 - a2))))
      else
        some (IntKind.wrap .i64 (bAnd .u64 r96.1 (IntKind.wrap .u64 (r1 - (1:Int)))))).bind fun (v99 : Int) =>
        (idxn a0 v37 (IntKind.wrap .i64 (a2 + v99))).bind fun (x102 : Int) =>
        (idxn a0 v37 v39).bind fun (x104 : Int) =>
        (idxn a0 v37 v39).bind fun (x106 : Int) =>
        (idxn a0 (List.set v37 (Int.toNat v39) x102) (IntKind.wrap .i64 (a2 + v99))).bind fun (x108 : Int) =>
        some ((List.set (List.set v37 (Int.toNat v39) x102) (Int.toNat (IntKind.wrap .i64 (a2 + v99))) x104), r96.2)).bind fun (o94 : ((List Int) × Int)) =>
      match o94 with
      | (v92, v93) =>
        F_slices_breakPatternsOrdered_uint64_L1 a0 a2 a3 r1 n77 v92 v93 (IntKind.wrap .i64 (v39 + (1:Int)))
    else
      some (v37, v38)
def F_slices_breakPatternsOrdered_uint64 (a0 : Nat) (a1 : (List Int)) (a2 : Int) (a3 : Int) : Option (List Int) :=
  if (decide ((IntKind.wrap .i64 (a3 - a2)) ≥ (8:Int))) = true then
    (F_slices_nextPowerOfTwo (IntKind.wrap .i64 (a3 - a2))).bind fun (r1 : Int) =>
    (F_slices_breakPatternsOrdered_uint64_L1 a0 a2 a3 r1 fuel a1 (IntKind.wrap .u64 (IntKind.wrap .i64 (a3 - a2))) (IntKind.wrap .i64 ((IntKind.wrap .i64 (a2 + (IntKind.wrap .i64 ((IntKind.wrap .i64 (Int.tdiv (IntKind.wrap .i64 (a3 - a2)) (4:Int))) * (2:Int))))) - (1:Int)))).bind fun (o75 : ((List Int) × Int)) =>
    match o75 with
    | (v73, v74) =>
      some v73
  else
    some a1
def F_slices_order2Ordered_uint64 (a0 : Nat) (a1 : (List Int)) (a2 : Int) (a3 : Int) (a4 : Int) : Option (Int × Int × Int) :=
  (idxn a0 a1 a3).bind fun (x1 : Int) =>
  (idxn a0 a1 a2).bind fun (x3 : Int) =>
  (F_cmp_Less_uint64 x1 x3).bind fun (r5 : Bool) =>
  if r5 = true then
    some (a3, a2, (IntKind.wrap .i64 (a4 + (1:Int))))
  else
    some (a2, a3, a4)
def F_slices_medianOrdered_uint64 (a0 : Nat) (a1 : (List Int)) (a2 : Int) (a3 : Int) (a4 : Int) (a5 : Int) : Option (Int × Int) :=
  (F_slices_order2Ordered_uint64 a0 a1 a2 a3 a5).bind fun (r1 : (Int × Int × Int)) =>
  (F_slices_order2Ordered_uint64 a0 a1 r1.2.1 a4 r1.2.2).bind fun (r3 : (Int × Int × Int)) =>
  (F_slices_order2Ordered_uint64 a0 a1 r1.1 r3.1 r3.2.2).bind fun (r5 : (Int × Int × Int)) =>
  some (r5.2.1, r5.2.2)
def F_slices_medianAdjacentOrdered_uint64 (a0 : Nat) (a1 : (List Int)) (a2 : Int) (a3 : Int) : Option (Int × Int) :=
  (F_slices_medianOrdered_uint64 a0 a1 (IntKind.wrap .i64 (a2 - (1:Int))) a2 (IntKind.wrap .i64 (a2 + (1:Int))) a3).bind fun (r1 : (Int × Int)) =>
  some (r1.1, r1.2)
def F_slices_choosePivotOrdered_uint64 (a0 : Nat) (a1 : (List Int)) (a2 : Int) (a3 : Int) : Option (Int × Int) :=
  (if (decide ((IntKind.wrap .i64 (a3 - a2)) ≥ (8:Int))) = true then
    (if (decide ((IntKind.wrap .i64 (a3 - a2)) ≥ (50:Int))) = true then
      (F_slices_medianAdjacentOrdered_uint64 a0 a1 (IntKind.wrap .i64 (a2 + (IntKind.wrap .i64 ((IntKind.wrap .i64 (Int.tdiv (IntKind.wrap .i64 (a3 - a2)) (4:Int))) * (1:Int))))) (0:Int)).bind fun (r41 : (Int × Int)) =>
      (F_slices_medianAdjacentOrdered_uint64 a0 a1 (IntKind.wrap .i64 (a2 + (IntKind.wrap .i64 ((IntKind.wrap .i64 (Int.tdiv (IntKind.wrap .i64 (a3 - a2)) (4:Int))) * (2:Int))))) r41.2).bind fun (r43 : (Int × Int)) =>
      (F_slices_medianAdjacentOrdered_uint64 a0 a1 (IntKind.wrap .i64 (a2 + (IntKind.wrap .i64 ((IntKind.wrap .i64 (Int.tdiv (IntKind.wrap .i64 (a3 - a2)) (4:Int))) * (3:Int))))) r43.2).bind fun (r45 : (Int × Int)) =>
      some (r45.2, r41.1, r43.1, r45.1)
    else
      some ((0:Int), (IntKind.wrap .i64 (a2 + (IntKind.wrap .i64 ((IntKind.wrap .i64 (Int.tdiv (IntKind.wrap .i64 (a3 - a2)) (4:Int))) * (1:Int))))), (IntKind.wrap .i64 (a2 + (IntKind.wrap .i64 ((IntKind.wrap .i64 (Int.tdiv (IntKind.wrap .i64 (a3 - a2)) (4:Int))) * (2:Int))))), (IntKind.wrap .i64 (a2 + (IntKind.wrap .i64 ((IntKind.wrap .i64 (Int.tdiv (IntKind.wrap .i64 (a3 - a2)) (4:Int))) * (3:Int))))))).bind fun (o39 : (Int × Int × Int × Int)) =>
    match o39 with
    | (v35, v36, v37, v38) =>
      (F_slices_medianOrdered_uint64 a0 a1 v36 v37 v38 v35).bind fun (r48 : (Int × Int)) =>
      some (r48.2, r48.1)
  else
    some ((0:Int), (IntKind.wrap .i64 (a2 + (IntKind.wrap .i64 ((IntKind.wrap .i64 (Int.tdiv (IntKind.wrap .i64 (a3 - a2)) (4:Int))) * (2:Int))))))).bind fun (o26 : (Int × Int)) =>
  match o26 with
  | (v24, v25) =>
    if (v24 == (0:Int)) = true then
      some (v25, (1:Int))
    else
      if (v24 == (12:Int)) = true then
        some (v25, (2:Int))
      else
        some (v25, (0:Int))
def F_slices_reverseRangeOrdered_uint64_L1 (a0 : Nat) : Nat → (List Int) → Int → Int → Option (List Int)
  | 0, _, _, _ => none
  | n26+1, v12, v13, v14 =>
    if (decide (v13 < v14)) = true then
      (idxn a0 v12 v14).bind fun (x27 : Int) =>
      (idxn a0 v12 v13).bind fun (x29 : Int) =>
      (idxn a0 v12 v13).bind fun (x31 : Int) =>
      (idxn a0 (List.set v12 (Int.toNat v13) x27) v14).bind fun (x33 : Int) =>
      F_slices_reverseRangeOrdered_uint64_L1 a0 n26 (List.set (List.set v12 (Int.toNat v13) x27) (Int.toNat v14) x29) (IntKind.wrap .i64 (v13 + (1:Int))) (IntKind.wrap .i64 (v14 - (1:Int)))
    else
      some v12
def F_slices_reverseRangeOrdered_uint64 (a0 : Nat) (a1 : (List Int)) (a2 : Int) (a3 : Int) : Option (List Int) :=
  (F_slices_reverseRangeOrdered_uint64_L1 a0 fuel a1 a2 (IntKind.wrap .i64 (a3 - (1:Int)))).bind fun (v24 : (List Int)) =>
    some v24
def F_slices_partialInsertionSortOrdered_uint64_L2 (a0 : Nat) (a3 : Int) (v423 : (List Int)) : Nat → Int → Option Int
  | 0, _ => none
  | n1077+1, v1061 =>
    (some (decide (v1061 < a3))).bind fun (b1078 : Bool) =>
    (if b1078 = true then
      (idxn a0 v423 v1061).bind fun (x1080 : Int) =>
      (idxn a0 v423 (IntKind.wrap .i64 (v1061 - (1:Int)))).bind fun (x1082 : Int) =>
      (F_cmp_Less_uint64 x1080 x1082).bind fun (r1084 : Bool) =>
      some (!r1084)
     else some false).bind fun (v1086 : Bool) =>
    if v1086 = true then
      F_slices_partialInsertionSortOrdered_uint64_L2 a0 a3 v423 n1077 (IntKind.wrap .i64 (v1061 + (1:Int)))
    else
      some v1061
def F_slices_partialInsertionSortOrdered_uint64_L3 (a0 : Nat) : Nat → (List Int) → Int → Option (List Int)
  | 0, _, _ => none
  | n1193+1, v1173, v1174 =>
    if (decide (v1174 ≥ (1:Int))) = true then
      (idxn a0 v1173 v1174).bind fun (x1194 : Int) =>
      (idxn a0 v1173 (IntKind.wrap .i64 (v1174 - (1:Int)))).bind fun (x1196 : Int) =>
      (F_cmp_Less_uint64 x1194 x1196).bind fun (r1198 : Bool) =>
      if (!r1198) = true then
        some v1173
      else
        (idxn a0 v1173 (IntKind.wrap .i64 (v1174 - (1:Int)))).bind fun (x1200 : Int) =>
        (idxn a0 v1173 v1174).bind fun (x1202 : Int) =>
        (idxn a0 v1173 v1174).bind fun (x1204 : Int) =>
        (idxn a0 (List.set v1173 (Int.toNat v1174) x1200) (IntKind.wrap .i64 (v1174 - (1:Int)))).bind fun (x1206 : Int) =>
        F_slices_partialInsertionSortOrdered_uint64_L3 a0 n1193 (List.set (List.set v1173 (Int.toNat v1174) x1200) (Int.toNat (IntKind.wrap .i64 (v1174 - (1:Int)))) x1202) (IntKind.wrap .i64 (v1174 - (1:Int)))
    else
      some v1173
def F_slices_partialInsertionSortOrdered_uint64_L4 (a0 : Nat) (a3 : Int) : Nat → (List Int) → Int → Option (List Int)
  | 0, _, _ => none
  | n1248+1, v1228, v1229 =>
    if (decide (v1229 < a3)) = true then
      (idxn a0 v1228 v1229).bind fun (x1249 : Int) =>
      (idxn a0 v1228 (IntKind.wrap .i64 (v1229 - (1:Int)))).bind fun (x1251 : Int) =>
      (F_cmp_Less_uint64 x1249 x1251).bind fun (r1253 : Bool) =>
      if (!r1253) = true then
        some v1228
      else
        (idxn a0 v1228 (IntKind.wrap .i64 (v1229 - (1:Int)))).bind fun (x1255 : Int) =>
        (idxn a0 v1228 v1229).bind fun (x1257 : Int) =>
        (idxn a0 v1228 v1229).bind fun (x1259 : Int) =>
        (idxn a0 (List.set v1228 (Int.toNat v1229) x1255) (IntKind.wrap .i64 (v1229 - (1:Int)))).bind fun (x1261 : Int) =>
        F_slices_partialInsertionSortOrdered_uint64_L4 a0 a3 n1248 (List.set (List.set v1228 (Int.toNat v1229) x1255) (Int.toNat (IntKind.wrap .i64 (v1229 - (1:Int)))) x1257) (IntKind.wrap .i64 (v1229 + (1:Int)))
    else
      some v1228
def F_slices_partialInsertionSortOrdered_uint64_L1 (a0 : Nat) (a2 : Int) (a3 : Int) : Nat → (List Int) → Int → Int → Option ((List Int) ⊕ (Bool × (List Int)))
  | 0, _, _, _ => none
  | n849+1, v423, v424, v425 =>
    if (decide (v425 < (5:Int))) = true then
      ((F_slices_partialInsertionSortOrdered_uint64_L2 a0 a3 v423 fuel v424).bind fun (v1075 : Int) =>
        if (v1075 == a3) = true then
          some (.inr (true, v423))
        else
          if (decide ((IntKind.wrap .i64 (a3 - a2)) < (50:Int))) = true then
            some (.inr (false, v423))
          else
            (idxn a0 v423 (IntKind.wrap .i64 (v1075 - (1:Int)))).bind fun (x1091 : Int) =>
            (idxn a0 v423 v1075).bind fun (x1093 : Int) =>
            (idxn a0 v423 v1075).bind fun (x1095 : Int) =>
            (idxn a0 (List.set v423 (Int.toNat v1075) x1091) (IntKind.wrap .i64 (v1075 - (1:Int)))).bind fun (x1097 : Int) =>
            (if (decide ((IntKind.wrap .i64 (v1075 - a2)) ≥ (2:Int))) = true then
              (F_slices_partialInsertionSortOrdered_uint64_L3 a0 fuel (List.set (List.set v423 (Int.toNat v1075) x1091) (Int.toNat (IntKind.wrap .i64 (v1075 - (1:Int)))) x1093) (IntKind.wrap .i64 (v1075 - (1:Int)))).bind fun (v1191 : (List Int)) =>
                some v1191
            else
              some (List.set (List.set v423 (Int.toNat v1075) x1091) (Int.toNat (IntKind.wrap .i64 (v1075 - (1:Int)))) x1093)).bind fun (v1154 : (List Int)) =>
              if (decide ((IntKind.wrap .i64 (a3 - v1075)) ≥ (2:Int))) = true then
                (F_slices_partialInsertionSortOrdered_uint64_L4 a0 a3 fuel v1154 (IntKind.wrap .i64 (v1075 + (1:Int)))).bind fun (v1246 : (List Int)) =>
                  some (.inl (v1246, v1075))
              else
                some (.inl (v1154, v1075))).bind fun (o1059 : (((List Int) × Int) ⊕ (Bool × (List Int)))) =>
      match o1059 with
      | .inl (v1057, v1058) =>
          F_slices_partialInsertionSortOrdered_uint64_L1 a0 a2 a3 n849 v1057 v1058 (IntKind.wrap .i64 (v425 + (1:Int)))
      | .inr r1268 =>
          some (.inr r1268)
    else
      some (.inl v423)
def F_slices_partialInsertionSortOrdered_uint64 (a0 : Nat) (a1 : (List Int)) (a2 : Int) (a3 : Int) : Option (Bool × (List Int)) :=
  (F_slices_partialInsertionSortOrdered_uint64_L1 a0 a2 a3 fuel a1 (IntKind.wrap .i64 (a2 + (1:Int))) (0:Int)).bind fun (o847 : ((List Int) ⊕ (Bool × (List Int)))) =>
  match o847 with
  | .inl v846 =>
      some (false, v846)
  | .inr r1270 =>
      some r1270
def F_slices_partitionEqualOrdered_uint64_L2 (a0 : Nat) (a2 : Int) (v80 : (List Int)) (v82 : Int) : Nat → Int → Option Int
  | 0, _ => none
  | n173+1, v157 =>
    (some (decide (v157 ≤ v82))).bind fun (b174 : Bool) =>
    (if b174 = true then
      (idxn a0 v80 a2).bind fun (x176 : Int) =>
      (idxn a0 v80 v157).bind fun (x178 : Int) =>
      (F_cmp_Less_uint64 x176 x178).bind fun (r180 : Bool) =>
      some (!r180)
     else some false).bind fun (v182 : Bool) =>
    if v182 = true then
      F_slices_partitionEqualOrdered_uint64_L2 a0 a2 v80 v82 n173 (IntKind.wrap .i64 (v157 + (1:Int)))
    else
      some v157
def F_slices_partitionEqualOrdered_uint64_L3 (a0 : Nat) (a2 : Int) (v80 : (List Int)) (v171 : Int) : Nat → Int → Option Int
  | 0, _ => none
  | n203+1, v187 =>
    (some (decide (v171 ≤ v187))).bind fun (b204 : Bool) =>
    (if b204 = true then
      (idxn a0 v80 a2).bind fun (x206 : Int) =>
      (idxn a0 v80 v187).bind fun (x208 : Int) =>
      (F_cmp_Less_uint64 x206 x208).bind fun (r210 : Bool) =>
      some r210
     else some false).bind fun (v212 : Bool) =>
    if v212 = true then
      F_slices_partitionEqualOrdered_uint64_L3 a0 a2 v80 v171 n203 (IntKind.wrap .i64 (v187 - (1:Int)))
    else
      some v187
def F_slices_partitionEqualOrdered_uint64_L1 (a0 : Nat) (a2 : Int) : Nat → (List Int) → Int → Int → Option ((List Int) × Int)
  | 0, _, _, _ => none
  | n156+1, v80, v81, v82 =>
    (F_slices_partitionEqualOrdered_uint64_L2 a0 a2 v80 v82 fuel v81).bind fun (v171 : Int) =>
      (F_slices_partitionEqualOrdered_uint64_L3 a0 a2 v80 v171 fuel v82).bind fun (v201 : Int) =>
        if (decide (v171 > v201)) = true then
          some (v80, v171)
        else
          (idxn a0 v80 v201).bind fun (x217 : Int) =>
          (idxn a0 v80 v171).bind fun (x219 : Int) =>
          (idxn a0 v80 v171).bind fun (x221 : Int) =>
          (idxn a0 (List.set v80 (Int.toNat v171) x217) v201).bind fun (x223 : Int) =>
          F_slices_partitionEqualOrdered_uint64_L1 a0 a2 n156 (List.set (List.set v80 (Int.toNat v171) x217) (Int.toNat v201) x219) (IntKind.wrap .i64 (v171 + (1:Int))) (IntKind.wrap .i64 (v201 - (1:Int)))
def F_slices_partitionEqualOrdered_uint64 (a0 : Nat) (a1 : (List Int)) (a2 : Int) (a3 : Int) (a4 : Int) : Option (Int × (List Int)) :=
  (idxn a0 a1 a4).bind fun (x1 : Int) =>
  (idxn a0 a1 a2).bind fun (x3 : Int) =>
  (idxn a0 a1 a2).bind fun (x5 : Int) =>
  (idxn a0 (List.set a1 (Int.toNat a2) x1) a4).bind fun (x7 : Int) =>
  (F_slices_partitionEqualOrdered_uint64_L1 a0 a2 fuel (List.set (List.set a1 (Int.toNat a2) x1) (Int.toNat a4) x3) (IntKind.wrap .i64 (a2 + (1:Int))) (IntKind.wrap .i64 (a3 - (1:Int)))).bind fun (o154 : ((List Int) × Int)) =>
  match o154 with
  | (v152, v153) =>
    some (v153, v152)
def F_slices_partitionOrdered_uint64_L1 (a0 : Nat) (a1 : (List Int)) (a2 : Int) (a3 : Int) (a4 : Int) (x1 : Int) (x3 : Int) : Nat → Int → Option Int
  | 0, _ => none
  | n25+1, v9 =>
    (some (decide (v9 ≤ (IntKind.wrap .i64 (a3 - (1:Int)))))).bind fun (b26 : Bool) =>
    (if b26 = true then
      (idxn a0 (List.set (List.set a1 (Int.toNat a2) x1) (Int.toNat a4) x3) v9).bind fun (x28 : Int) =>
      (idxn a0 (List.set (List.set a1 (Int.toNat a2) x1) (Int.toNat a4) x3) a2).bind fun (x30 : Int) =>
      (F_cmp_Less_uint64 x28 x30).bind fun (r32 : Bool) =>
      some r32
     else some false).bind fun (v34 : Bool) =>
    if v34 = true then
      F_slices_partitionOrdered_uint64_L1 a0 a1 a2 a3 a4 x1 x3 n25 (IntKind.wrap .i64 (v9 + (1:Int)))
    else
      some v9
def F_slices_partitionOrdered_uint64_L2 (a0 : Nat) (a1 : (List Int)) (a2 : Int) (a4 : Int) (x1 : Int) (x3 : Int) (v23 : Int) : Nat → Int → Option Int
  | 0, _ => none
  | n55+1, v39 =>
    (some (decide (v23 ≤ v39))).bind fun (b56 : Bool) =>
    (if b56 = true then
      (idxn a0 (List.set (List.set a1 (Int.toNat a2) x1) (Int.toNat a4) x3) v39).bind fun (x58 : Int) =>
      (idxn a0 (List.set (List.set a1 (Int.toNat a2) x1) (Int.toNat a4) x3) a2).bind fun (x60 : Int) =>
      (F_cmp_Less_uint64 x58 x60).bind fun (r62 : Bool) =>
      some (!r62)
     else some false).bind fun (v64 : Bool) =>
    if v64 = true then
      F_slices_partitionOrdered_uint64_L2 a0 a1 a2 a4 x1 x3 v23 n55 (IntKind.wrap .i64 (v39 - (1:Int)))
    else
      some v39
def F_slices_partitionOrdered_uint64_L4 (a0 : Nat) (a2 : Int) (v156 : (List Int)) (v158 : Int) : Nat → Int → Option Int
  | 0, _ => none
  | n249+1, v233 =>
    (some (decide (v233 ≤ v158))).bind fun (b250 : Bool) =>
    (if b250 = true then
      (idxn a0 v156 v233).bind fun (x252 : Int) =>
      (idxn a0 v156 a2).bind fun (x254 : Int) =>
      (F_cmp_Less_uint64 x252 x254).bind fun (r256 : Bool) =>
      some r256
     else some false).bind fun (v258 : Bool) =>
    if v258 = true then
      F_slices_partitionOrdered_uint64_L4 a0 a2 v156 v158 n249 (IntKind.wrap .i64 (v233 + (1:Int)))
    else
      some v233
def F_slices_partitionOrdered_uint64_L5 (a0 : Nat) (a2 : Int) (v156 : (List Int)) (v247 : Int) : Nat → Int → Option Int
  | 0, _ => none
  | n279+1, v263 =>
    (some (decide (v247 ≤ v263))).bind fun (b280 : Bool) =>
    (if b280 = true then
      (idxn a0 v156 v263).bind fun (x282 : Int) =>
      (idxn a0 v156 a2).bind fun (x284 : Int) =>
      (F_cmp_Less_uint64 x282 x284).bind fun (r286 : Bool) =>
      some (!r286)
     else some false).bind fun (v288 : Bool) =>
    if v288 = true then
      F_slices_partitionOrdered_uint64_L5 a0 a2 v156 v247 n279 (IntKind.wrap .i64 (v263 - (1:Int)))
    else
      some v263
def F_slices_partitionOrdered_uint64_L3 (a0 : Nat) (a2 : Int) : Nat → (List Int) → Int → Int → Option ((List Int) × Int)
  | 0, _, _, _ => none
  | n232+1, v156, v157, v158 =>
    (F_slices_partitionOrdered_uint64_L4 a0 a2 v156 v158 fuel v157).bind fun (v247 : Int) =>
      (F_slices_partitionOrdered_uint64_L5 a0 a2 v156 v247 fuel v158).bind fun (v277 : Int) =>
        if (decide (v247 > v277)) = true then
          some (v156, v277)
        else
          (idxn a0 v156 v277).bind fun (x293 : Int) =>
          (idxn a0 v156 v247).bind fun (x295 : Int) =>
          (idxn a0 v156 v247).bind fun (x297 : Int) =>
          (idxn a0 (List.set v156 (Int.toNat v247) x293) v277).bind fun (x299 : Int) =>
          F_slices_partitionOrdered_uint64_L3 a0 a2 n232 (List.set (List.set v156 (Int.toNat v247) x293) (Int.toNat v277) x295) (IntKind.wrap .i64 (v247 + (1:Int))) (IntKind.wrap .i64 (v277 - (1:Int)))
def F_slices_partitionOrdered_uint64 (a0 : Nat) (a1 : (List Int)) (a2 : Int) (a3 : Int) (a4 : Int) : Option (Int × Bool × (List Int)) :=
  (idxn a0 a1 a4).bind fun (x1 : Int) =>
  (idxn a0 a1 a2).bind fun (x3 : Int) =>
  (idxn a0 a1 a2).bind fun (x5 : Int) =>
  (idxn a0 (List.set a1 (Int.toNat a2) x1) a4).bind fun (x7 : Int) =>
  (F_slices_partitionOrdered_uint64_L1 a0 a1 a2 a3 a4 x1 x3 fuel (IntKind.wrap .i64 (a2 + (1:Int)))).bind fun (v23 : Int) =>
    (F_slices_partitionOrdered_uint64_L2 a0 a1 a2 a4 x1 x3 v23 fuel (IntKind.wrap .i64 (a3 - (1:Int)))).bind fun (v53 : Int) =>
      if (decide (v23 > v53)) = true then
        (idxn a0 (List.set (List.set a1 (Int.toNat a2) x1) (Int.toNat a4) x3) a2).bind fun (x69 : Int) =>
        (idxn a0 (List.set (List.set a1 (Int.toNat a2) x1) (Int.toNat a4) x3) v53).bind fun (x71 : Int) =>
        (idxn a0 (List.set (List.set a1 (Int.toNat a2) x1) (Int.toNat a4) x3) v53).bind fun (x73 : Int) =>
        (idxn a0 (List.set (List.set (List.set a1 (Int.toNat a2) x1) (Int.toNat a4) x3) (Int.toNat v53) x69) a2).bind fun (x75 : Int) =>
        some (v53, true, (List.set (List.set (List.set (List.set a1 (Int.toNat a2) x1) (Int.toNat a4) x3) (Int.toNat v53) x69) (Int.toNat a2) x71))
      else
        (idxn a0 (List.set (List.set a1 (Int.toNat a2) x1) (Int.toNat a4) x3) v53).bind fun (x77 : Int) =>
        (idxn a0 (List.set (List.set a1 (Int.toNat a2) x1) (Int.toNat a4) x3) v23).bind fun (x79 : Int) =>
        (idxn a0 (List.set (List.set a1 (Int.toNat a2) x1) (Int.toNat a4) x3) v23).bind fun (x81 : Int) =>
        (idxn a0 (List.set (List.set (List.set a1 (Int.toNat a2) x1) (Int.toNat a4) x3) (Int.toNat v23) x77) v53).bind fun (x83 : Int) =>
        (F_slices_partitionOrdered_uint64_L3 a0 a2 fuel (List.set (List.set (List.set (List.set a1 (Int.toNat a2) x1) (Int.toNat a4) x3) (Int.toNat v23) x77) (Int.toNat v53) x79) (IntKind.wrap .i64 (v23 + (1:Int))) (IntKind.wrap .i64 (v53 - (1:Int)))).bind fun (o230 : ((List Int) × Int)) =>
        match o230 with
        | (v228, v229) =>
          (idxn a0 v228 a2).bind fun (x302 : Int) =>
          (idxn a0 v228 v229).bind fun (x304 : Int) =>
          (idxn a0 v228 v229).bind fun (x306 : Int) =>
          (idxn a0 (List.set v228 (Int.toNat v229) x302) a2).bind fun (x308 : Int) =>
          some (v229, false, (List.set (List.set v228 (Int.toNat v229) x302) (Int.toNat a2) x304))
def F_slices_pdqsortOrdered_uint64_L1 (a0 : Nat) (z0 : Nat → (List Int) → Int → Int → Int → Option (List Int)) : Nat → (List Int) → Int → Int → Int → Bool → Bool → Option (List Int)
  | 0, _, _, _, _, _, _ => none
  | n156+1, v77, v78, v79, v80, v81, v82 =>
    if (decide ((IntKind.wrap .i64 (v79 - v78)) ≤ (12:Int))) = true then
      (F_slices_insertionSortOrdered_uint64 a0 v77 v78 v79).bind fun (r157 : (List Int)) =>
      some r157
    else
      if (v80 == (0:Int)) = true then
        (F_slices_heapSortOrdered_uint64 a0 v77 v78 v79).bind fun (r159 : (List Int)) =>
        some r159
      else
        (if (!v81) = true then
          (F_slices_breakPatternsOrdered_uint64 a0 v77 v78 v79).bind fun (r168 : (List Int)) =>
          some (r168, (IntKind.wrap .i64 (v80 - (1:Int))))
        else
          some (v77, v80)).bind fun (o166 : ((List Int) × Int)) =>
        match o166 with
        | (v164, v165) =>
          (F_slices_choosePivotOrdered_uint64 a0 v164 v78 v79).bind fun (r171 : (Int × Int)) =>
          (if (r171.2 == (2:Int)) = true then
            (F_slices_reverseRangeOrdered_uint64 a0 v164 v78 v79).bind fun (r181 : (List Int)) =>
            some (r181, (IntKind.wrap .i64 ((IntKind.wrap .i64 (v79 - (1:Int))) - (IntKind.wrap .i64 (r171.1 - v78)))), (1:Int))
          else
            some (v164, r171.1, r171.2)).bind fun (o179 : ((List Int) × Int × Int)) =>
          match o179 with
          | (v176, v177, v178) =>
            ((some v81).bind fun (b195 : Bool) =>
            (some (b195 && v82)).bind fun (b197 : Bool) =>
            if (b197 && (v178 == (1:Int))) = true then
              (F_slices_partialInsertionSortOrdered_uint64 a0 v176 v78 v79).bind fun (r199 : (Bool × (List Int))) =>
              if r199.1 = true then
                some (.inr r199.2)
              else
                some (.inl r199.2)
            else
              some (.inl v176)).bind fun (o193 : ((List Int) ⊕ (List Int))) =>
            match o193 with
            | .inl v192 =>
                (some (decide (v78 > (0:Int)))).bind fun (b203 : Bool) =>
                (if b203 = true then
                  (idxn a0 v192 (IntKind.wrap .i64 (v78 - (1:Int)))).bind fun (x205 : Int) =>
                  (idxn a0 v192 v177).bind fun (x207 : Int) =>
                  (F_cmp_Less_uint64 x205 x207).bind fun (r209 : Bool) =>
                  some (!r209)
                 else some false).bind fun (v211 : Bool) =>
                if v211 = true then
                  (F_slices_partitionEqualOrdered_uint64 a0 v192 v78 v79 v177).bind fun (r215 : (Int × (List Int))) =>
                  F_slices_pdqsortOrdered_uint64_L1 a0 z0 n156 r215.2 r215.1 v79 v165 v81 v82
                else
                  (F_slices_partitionOrdered_uint64 a0 v192 v78 v79 v177).bind fun (r217 : (Int × Bool × (List Int))) =>
                  if (decide ((IntKind.wrap .i64 (r217.1 - v78)) < (IntKind.wrap .i64 (v79 - r217.1)))) = true then
                    (z0 a0 r217.2.2 v78 r217.1 v165).bind fun (r219 : (List Int)) =>
                    F_slices_pdqsortOrdered_uint64_L1 a0 z0 n156 r219 (IntKind.wrap .i64 (r217.1 + (1:Int))) v79 v165 (decide ((IntKind.wrap .i64 (r217.1 - v78)) ≥ (IntKind.wrap .i64 (Int.tdiv (IntKind.wrap .i64 (v79 - v78)) (8:Int))))) r217.2.1
                  else
                    (z0 a0 r217.2.2 (IntKind.wrap .i64 (r217.1 + (1:Int))) v79 v165).bind fun (r221 : (List Int)) =>
                    F_slices_pdqsortOrdered_uint64_L1 a0 z0 n156 r221 v78 r217.1 v165 (decide ((IntKind.wrap .i64 (v79 - r217.1)) ≥ (IntKind.wrap .i64 (Int.tdiv (IntKind.wrap .i64 (v79 - v78)) (8:Int))))) r217.2.1
            | .inr r225 =>
                some r225
def F_slices_pdqsortOrdered_uint64 : Nat → Nat → (List Int) → Int → Int → Int → Option (List Int)
  | 0, _, _, _, _, _ => none
  | nr+1, a0, a1, a2, a3, a4 =>
    (F_slices_pdqsortOrdered_uint64_L1 a0 (F_slices_pdqsortOrdered_uint64 nr) fuel a1 a2 a3 a4 true true).bind fun (o154 : (List Int)) =>
    match o154 with
    | r228 =>
      some r228
def F_slices_Sort_uint64_uint64 (a0 : Nat) (a1 : (List Int)) : Option (List Int) :=
  (F_math_bits_Len (IntKind.wrap .u64 (a0 : Int))).bind fun (r1 : Int) =>
  (F_slices_pdqsortOrdered_uint64 fuel a0 a1 (0:Int) (a0 : Int) r1).bind fun (r3 : (List Int)) =>
  some r3
def F_slices_Compact_uint64_uint64_L2 (a0 : Nat) (v1 : Int) : Nat → (List Int) → Int → Int → Option ((List Int) × Int)
  | 0, _, _, _ => none
  | n154+1, v124, v125, v126 =>
    if (decide (v126 < ((Int.toNat (a0 : Int) - Int.toNat v1) : Int))) = true then
      ((idxv (Int.toNat (a0 : Int) - Int.toNat v1) v124 v1 v126).bind fun (x168 : Int) =>
      (idxv (Int.toNat (a0 : Int) - Int.toNat v1) v124 v1 (IntKind.wrap .i64 (v126 - (1:Int)))).bind fun (x170 : Int) =>
      if (x168 != x170) = true then
        (idxv (Int.toNat (a0 : Int) - Int.toNat v1) v124 v1 v126).bind fun (x172 : Int) =>
        (idxn a0 v124 v125).bind fun (x174 : Int) =>
        some ((List.set v124 (Int.toNat v125) x172), (IntKind.wrap .i64 (v125 + (1:Int))))
      else
        some (v124, v125)).bind fun (o166 : ((List Int) × Int)) =>
      match o166 with
      | (v164, v165) =>
        F_slices_Compact_uint64_uint64_L2 a0 v1 n154 v164 v165 (IntKind.wrap .i64 (v126 + (1:Int)))
    else
      some (v124, v125)
def F_slices_Compact_uint64_uint64_L1 (a0 : Nat) (a1 : (List Int)) : Nat → Int → Option (Unit ⊕ (Nat × (List Int)))
  | 0, _ => none
  | n93+1, v1 =>
    if (decide (v1 < (a0 : Int))) = true then
      (idxn a0 a1 v1).bind fun (x94 : Int) =>
      (idxn a0 a1 (IntKind.wrap .i64 (v1 - (1:Int)))).bind fun (x96 : Int) =>
      if (x94 == x96) = true then
        if 0 ≤ v1 ∧ v1 ≤ (a0 : Int) ∧ (a0 : Int) ≤ (a0 : Int) then
        (F_slices_Compact_uint64_uint64_L2 a0 v1 fuel a1 v1 (1:Int)).bind fun (o152 : ((List Int) × Int)) =>
        match o152 with
        | (v150, v151) =>
          if 0 ≤ v151 ∧ v151 ≤ (a0 : Int) ∧ (a0 : Int) ≤ (a0 : Int) then
          if Int.toNat v151 + (Int.toNat (a0 : Int) - Int.toNat v151) ≤ List.length v150 then
          if 0 ≤ (0:Int) ∧ (0:Int) ≤ v151 ∧ v151 ≤ (a0 : Int) then
          some (.inr ((Int.toNat v151), (List.take (Int.toNat v151) v150 ++ List.replicate (Int.toNat (a0 : Int) - Int.toNat v151) (0:Int) ++ List.drop (Int.toNat v151 + (Int.toNat (a0 : Int) - Int.toNat v151)) v150)))
          else none
          else none
          else none
        else none
      else
        F_slices_Compact_uint64_uint64_L1 a0 a1 n93 (IntKind.wrap .i64 (v1 + (1:Int)))
    else
      some (.inl ())
def F_slices_Compact_uint64_uint64 (a0 : Nat) (a1 : (List Int)) : Option (Nat × (List Int)) :=
  if (decide ((a0 : Int) < (2:Int))) = true then
    some (a0, a1)
  else
    (F_slices_Compact_uint64_uint64_L1 a0 a1 fuel (1:Int)).bind fun (o91 : (Unit ⊕ (Nat × (List Int)))) =>
    match o91 with
    | .inl () =>
        some (a0, a1)
    | .inr r183 =>
        some r183
def F_packetset_cuts_L2 (a0 : Int) (x63 : (List (Arr5 api_Range))) : Nat → (List Int) → Int → Option (List Int)
  | 0, _, _ => none
  | n82+1, v72, v73 =>
    if (decide (v73 < (List.length x63 : Int))) = true then
      (idx x63 v73).bind fun (x83 : (Arr5 api_Range)) =>
      if 0 ≤ a0 ∧ a0 < 5 then
      if 0 ≤ a0 ∧ a0 < 5 then
      if List.length v72 + List.length [(IntKind.wrap .u64 (Arr5.get x83 a0).Lo), (IntKind.wrap .u64 ((IntKind.wrap .u64 (Arr5.get x83 a0).Hi) + (1:Int)))] ≤ lim then
      F_packetset_cuts_L2 a0 x63 n82 (v72 ++ [(IntKind.wrap .u64 (Arr5.get x83 a0).Lo), (IntKind.wrap .u64 ((IntKind.wrap .u64 (Arr5.get x83 a0).Hi) + (1:Int)))]) (IntKind.wrap .i64 (v73 + (1:Int)))
      else none
      else none
      else none
    else
      some v72
def F_packetset_cuts_L1 (a0 : Int) (a1 : (List (List (Arr5 api_Range)))) : Nat → (List Int) → Int → Option (List Int)
  | 0, _, _ => none
  | n62+1, v31, v32 =>
    if (decide (v32 < (List.length a1 : Int))) = true then
      (idx a1 v32).bind fun (x63 : (List (Arr5 api_Range))) =>
      (F_packetset_cuts_L2 a0 x63 fuel v31 (0:Int)).bind fun (v80 : (List Int)) =>
        F_packetset_cuts_L1 a0 a1 n62 v80 (IntKind.wrap .i64 (v32 + (1:Int)))
    else
      some v31
def F_packetset_cuts (a0 : Int) (a1 : (List (List (Arr5 api_Range)))) : Option (List Int) :=
  (F_box_Top a0).bind fun (r1 : Int) =>
  (F_packetset_cuts_L1 a0 a1 fuel [(0:Int), (IntKind.wrap .u64 ((IntKind.wrap .u64 r1) + (1:Int)))] (0:Int)).bind fun (v60 : (List Int)) =>
    if v60 ≠ [] then
    (F_slices_Sort_uint64_uint64 (List.length v60) v60).bind fun (r90 : (List Int)) =>
    if List.length r90 = List.length v60 then
    if r90 ≠ [] then
    (F_slices_Compact_uint64_uint64 (List.length r90) r90).bind fun (r94 : (Nat × (List Int))) =>
    if List.length r94.2 = List.length r90 then
    if r94.1 ≤ List.length r94.2 then
    some (List.take r94.1 r94.2)
    else none
    else none
    else none
    else none
    else none
def F_packetset_covering_L1 (a0 : (List (Arr5 api_Range))) (a1 : Int) (a2 : Int) : Nat → (List (Arr5 api_Range)) → Int → Option (List (Arr5 api_Range))
  | 0, _, _ => none
  | n60+1, v29, v30 =>
    if (decide (v30 < (List.length a0 : Int))) = true then
      ((idx a0 v30).bind fun (x75 : (Arr5 api_Range)) =>
      if 0 ≤ a1 ∧ a1 < 5 then
      (some (decide ((Arr5.get x75 a1).Lo ≤ a2))).bind fun (b78 : Bool) =>
      (if b78 = true then
        if 0 ≤ a1 ∧ a1 < 5 then
        some (decide (a2 ≤ (Arr5.get x75 a1).Hi))
        else none
       else some false).bind fun (v81 : Bool) =>
      if v81 = true then
        if List.length v29 + List.length [x75] ≤ lim then
        some (v29 ++ [x75])
        else none
      else
        some v29
      else none).bind fun (v73 : (List (Arr5 api_Range))) =>
        F_packetset_covering_L1 a0 a1 a2 n60 v73 (IntKind.wrap .i64 (v30 + (1:Int)))
    else
      some v29
def F_packetset_covering (a0 : (List (Arr5 api_Range))) (a1 : Int) (a2 : Int) : Option (List (Arr5 api_Range)) :=
  (F_packetset_covering_L1 a0 a1 a2 fuel ([] : (List (Arr5 api_Range))) (0:Int)).bind fun (v58 : (List (Arr5 api_Range))) =>
    some v58
def F_packetset_canonical_f79_L1 (a0 : Int) (a1 : (List (Arr5 api_Range))) (a2 : (List (Arr5 api_Range))) (a3 : Int) (z0 : Int → (List (Arr5 api_Range)) → (List (Arr5 api_Range)) → Int → Option ((List (Arr5 api_Range)) × Bool)) (r12 : (List Int)) : Nat → (List packetset_group) → Int → Int → Option (((List packetset_group) × Int) ⊕ ((List (Arr5 api_Range)) × Bool))
  | 0, _, _, _ => none
  | n179+1, v94, v95, v96 =>
    if (decide ((IntKind.wrap .i64 (v96 + (1:Int))) < (List.length r12 : Int))) = true then
      ((idx r12 v96).bind fun (x220 : Int) =>
      (idx r12 (IntKind.wrap .i64 (v96 + (1:Int)))).bind fun (x222 : Int) =>
      (F_packetset_covering a1 a0 (IntKind.wrap .u32 x220)).bind fun (r224 : (List (Arr5 api_Range))) =>
      (F_packetset_covering a2 a0 (IntKind.wrap .u32 x220)).bind fun (r226 : (List (Arr5 api_Range))) =>
      (z0 (IntKind.wrap .i64 (a0 + (1:Int))) r224 r226 a3).bind fun (r228 : ((List (Arr5 api_Range)) × Bool)) =>
      if (!r228.2) = true then
        some (.inr (([] : (List (Arr5 api_Range))), false))
      else
        if ((List.length r228.1 : Int) == (0:Int)) = true then
          some (.inl (v94, v95))
        else
          (some (decide ((List.length v94 : Int) > (0:Int)))).bind fun (b230 : Bool) =>
          (if b230 = true then
            (idx v94 (IntKind.wrap .i64 ((List.length v94 : Int) - (1:Int)))).bind fun (x232 : packetset_group) =>
            some ((IntKind.wrap .u32 (x232.f_values.Hi + (1:Int))) == (IntKind.wrap .u32 x220))
           else some false).bind fun (v234 : Bool) =>
          (some v234).bind fun (b236 : Bool) =>
          (if b236 = true then
            (idx v94 (IntKind.wrap .i64 ((List.length v94 : Int) - (1:Int)))).bind fun (x238 : packetset_group) =>
            (F_slices_Equal_api_Box_api_Box x238.f_rest r228.1).bind fun (r240 : Bool) =>
            some r240
           else some false).bind fun (v242 : Bool) =>
          if v242 = true then
            (idx v94 (IntKind.wrap .i64 ((List.length v94 : Int) - (1:Int)))).bind fun (x249 : packetset_group) =>
            some (.inl ((List.set v94 (Int.toNat (IntKind.wrap .i64 ((List.length v94 : Int) - (1:Int)))) ({ x249 with f_values := ({ x249.f_values with Hi := (IntKind.wrap .u32 (IntKind.wrap .u64 (x222 - (1:Int)))) } : api_Range) } : packetset_group)), v95))
          else
            if List.length v94 + List.length [(packetset_group.mk (api_Range.mk (IntKind.wrap .u32 x220) (IntKind.wrap .u32 (IntKind.wrap .u64 (x222 - (1:Int))))) r228.1)] ≤ lim then
            if (decide ((IntKind.wrap .i64 (v95 + (List.length r228.1 : Int))) > a3)) = true then
              some (.inr (([] : (List (Arr5 api_Range))), false))
            else
              some (.inl ((v94 ++ [(packetset_group.mk (api_Range.mk (IntKind.wrap .u32 x220) (IntKind.wrap .u32 (IntKind.wrap .u64 (x222 - (1:Int))))) r228.1)]), (IntKind.wrap .i64 (v95 + (List.length r228.1 : Int)))))
            else none).bind fun (o218 : (((List packetset_group) × Int) ⊕ ((List (Arr5 api_Range)) × Bool))) =>
      match o218 with
      | .inl (v216, v217) =>
          F_packetset_canonical_f79_L1 a0 a1 a2 a3 z0 r12 n179 v216 v217 (IntKind.wrap .i64 (v96 + (1:Int)))
      | .inr r256 =>
          some (.inr r256)
    else
      some (.inl (v94, v95))
def F_packetset_canonical_f79_L3 (a0 : Int) (x325 : packetset_group) : Nat → (List (Arr5 api_Range)) → Int → Option (List (Arr5 api_Range))
  | 0, _, _ => none
  | n346+1, v335, v336 =>
    if (decide (v336 < (List.length x325.f_rest : Int))) = true then
      (idx x325.f_rest v336).bind fun (x347 : (Arr5 api_Range)) =>
      if 0 ≤ a0 ∧ a0 < 5 then
      if List.length v335 + List.length [(Arr5.set x347 a0 x325.f_values)] ≤ lim then
      F_packetset_canonical_f79_L3 a0 x325 n346 (v335 ++ [(Arr5.set x347 a0 x325.f_values)]) (IntKind.wrap .i64 (v336 + (1:Int)))
      else none
      else none
    else
      some v335
def F_packetset_canonical_f79_L2 (a0 : Int) (v175 : (List packetset_group)) : Nat → (List (Arr5 api_Range)) → Int → Option (List (Arr5 api_Range))
  | 0, _, _ => none
  | n324+1, v290, v291 =>
    if (decide (v291 < (List.length v175 : Int))) = true then
      (idx v175 v291).bind fun (x325 : packetset_group) =>
      (F_packetset_canonical_f79_L3 a0 x325 fuel v290 (0:Int)).bind fun (v344 : (List (Arr5 api_Range))) =>
        F_packetset_canonical_f79_L2 a0 v175 n324 v344 (IntKind.wrap .i64 (v291 + (1:Int)))
    else
      some v290
def F_packetset_canonical_f79 : Nat → Int → (List (Arr5 api_Range)) → (List (Arr5 api_Range)) → Int → Option ((List (Arr5 api_Range)) × Bool)
  | 0, _, _, _, _ => none
  | nr+1, a0, a1, a2, a3 =>
    if (a0 == (5:Int)) = true then
      (F_packetset_either (decide ((List.length a1 : Int) > (0:Int))) (decide ((List.length a2 : Int) > (0:Int)))).bind fun (r1 : Bool) =>
      if r1 = true then
        some ([(Arr5.mk z_api_Range z_api_Range z_api_Range z_api_Range z_api_Range)], true)
      else
        some (([] : (List (Arr5 api_Range))), true)
    else
      (some ((IntKind.wrap .i64 ((List.length a1 : Int) + (List.length a2 : Int))) == (0:Int))).bind fun (b4 : Bool) =>
      (if b4 = true then
        (F_packetset_either false false).bind fun (r6 : Bool) =>
        some (!r6)
       else some false).bind fun (v8 : Bool) =>
      if v8 = true then
        some (([] : (List (Arr5 api_Range))), true)
      else
        (F_packetset_cuts a0 [a1, a2]).bind fun (r12 : (List Int)) =>
        (F_packetset_canonical_f79_L1 a0 a1 a2 a3 (F_packetset_canonical_f79 nr) r12 fuel ([] : (List packetset_group)) (0:Int) (0:Int)).bind fun (o177 : (((List packetset_group) × Int) ⊕ ((List (Arr5 api_Range)) × Bool))) =>
        match o177 with
        | .inl (v175, v176) =>
            if 0 ≤ v176 ∧ v176 ≤ (lim : Int) then
            (F_packetset_canonical_f79_L2 a0 v175 fuel ([] : (List (Arr5 api_Range))) (0:Int)).bind fun (v322 : (List (Arr5 api_Range))) =>
              some (v322, true)
            else none
        | .inr r355 =>
            some r355
def F_packetset_combine_f79 (a0 : (List (Arr5 api_Range))) (a1 : (List (Arr5 api_Range))) : Option ((List (Arr5 api_Range)) × Int) :=
  (F_packetset_canonical_f79 fuel (0:Int) a0 a1 (4096:Int)).bind fun (r1 : ((List (Arr5 api_Range)) × Bool)) =>
  if (!r1.2) = true then
    some (([] : (List (Arr5 api_Range))), (3:Int))
  else
    some (r1.1, (0:Int))
def F_packetset_Make_L1 (r1 : (List (Arr5 api_Range))) : Nat → (List (Arr5 api_Range)) → Int → Option ((List (Arr5 api_Range)) ⊕ ((List (Arr5 api_Range)) × Int))
  | 0, _, _ => none
  | n14+1, v3, v4 =>
    if (decide (v4 < (List.length r1 : Int))) = true then
      (idx r1 v4).bind fun (x15 : (Arr5 api_Range)) =>
      (F_packetset_combine_f79 v3 [x15]).bind fun (r17 : ((List (Arr5 api_Range)) × Int)) =>
      if (r17.2 != (0:Int)) = true then
        some (.inr (([] : (List (Arr5 api_Range))), r17.2))
      else
        F_packetset_Make_L1 r1 n14 r17.1 (IntKind.wrap .i64 (v4 + (1:Int)))
    else
      some (.inl v3)
def F_packetset_Make (a0 : (List (Arr5 api_Range))) : Option ((List (Arr5 api_Range)) × Int) :=
  (F_packetset_valid a0).bind fun (r1 : (List (Arr5 api_Range))) =>
  (F_packetset_Make_L1 r1 fuel ([] : (List (Arr5 api_Range))) (0:Int)).bind fun (o12 : ((List (Arr5 api_Range)) ⊕ ((List (Arr5 api_Range)) × Int))) =>
  match o12 with
  | .inl v11 =>
      some (v11, (0:Int))
  | .inr r21 =>
      some r21
def F_cardinal_set (a0 : (List (Arr5 api_Range))) : Option ((List (Arr5 api_Range)) × Int) :=
  (F_packetset_Valid a0).bind fun (r1 : Bool) =>
  if r1 = true then
    some (a0, (0:Int))
  else
    (F_packetset_Make a0).bind fun (r3 : ((List (Arr5 api_Range)) × Int)) =>
    some (r3.1, r3.2)
def F_box_values (a0 : api_Header) : Option (Arr5 Int) :=
  some (Arr5.mk a0.Src a0.Dst (IntKind.wrap .u32 a0.Proto) (IntKind.wrap .u32 a0.SrcPort) (IntKind.wrap .u32 a0.DstPort))
def F_box_Value (a0 : api_Header) (a1 : Int) : Option Int :=
  (some (decide (a1 < (0:Int)))).bind fun (b1 : Bool) =>
  if (b1 || (decide (a1 ≥ (5:Int)))) = true then
    some (0:Int)
  else
    (F_box_values a0).bind fun (r3 : (Arr5 Int)) =>
    if 0 ≤ a1 ∧ a1 < 5 then
    some (Arr5.get r3 a1)
    else none
def F_cardinal_length (a0 : api_Range) : Option Int :=
  some (IntKind.wrap .u64 ((IntKind.wrap .u64 ((IntKind.wrap .u64 a0.Hi) - (IntKind.wrap .u64 a0.Lo))) + (1:Int)))
def F_cardinal_Number (a0 : Int) : Option api_Count :=
  some (api_Count.mk (0:Int) a0)
def F_math_bits_Mul64 (a0 : Int) (a1 : Int) : Option (Int × Int) :=
  some ((IntKind.wrap .u64 ((IntKind.wrap .u64 ((IntKind.wrap .u64 ((bShr .u64 a0 (32:Int)) * (bShr .u64 a1 (32:Int)))) + (bShr .u64 (IntKind.wrap .u64 ((IntKind.wrap .u64 ((bShr .u64 a0 (32:Int)) * (bAnd .u64 a1 (4294967295:Int)))) + (bShr .u64 (IntKind.wrap .u64 ((bAnd .u64 a0 (4294967295:Int)) * (bAnd .u64 a1 (4294967295:Int)))) (32:Int)))) (32:Int)))) + (bShr .u64 (IntKind.wrap .u64 ((bAnd .u64 (IntKind.wrap .u64 ((IntKind.wrap .u64 ((bShr .u64 a0 (32:Int)) * (bAnd .u64 a1 (4294967295:Int)))) + (bShr .u64 (IntKind.wrap .u64 ((bAnd .u64 a0 (4294967295:Int)) * (bAnd .u64 a1 (4294967295:Int)))) (32:Int)))) (4294967295:Int)) + (IntKind.wrap .u64 ((bAnd .u64 a0 (4294967295:Int)) * (bShr .u64 a1 (32:Int)))))) (32:Int)))), (IntKind.wrap .u64 (a0 * a1)))
def F_cardinal_times (a0 : api_Count) (a1 : Int) : Option (api_Count × Bool) :=
  (F_math_bits_Mul64 a0.Lo a1).bind fun (r1 : (Int × Int)) =>
  (F_math_bits_Mul64 a0.Hi a1).bind fun (r3 : (Int × Int)) =>
  if 0 ≤ r3.2 ∧ 0 ≤ r1.1 ∧ 0 ≤ (0:Int) ∧ (0:Int) ≤ 1 then
  (some (r3.1 == (0:Int))).bind fun (b6 : Bool) =>
  some ((api_Count.mk ((r3.2 + r1.1 + (0:Int)) % 18446744073709551616) r1.2), (b6 && (((r3.2 + r1.1 + (0:Int)) / 18446744073709551616) == (0:Int))))
  else none
def F_cardinal_volume_L1 (a0 : (Arr5 api_Range)) (a1 : Int) : Nat → api_Count → Int → Option api_Count
  | 0, _, _ => none
  | n23+1, v12, v13 =>
    if (decide (v13 < ((Int.toNat (5:Int) - Int.toNat a1) : Int))) = true then
      if 0 ≤ v13 ∧ v13 < ((Int.toNat (5:Int) - Int.toNat a1) : Int) then
      if 0 ≤ (a1 + v13) ∧ (a1 + v13) < 5 then
      (F_cardinal_length (Arr5.get a0 (a1 + v13))).bind fun (r26 : Int) =>
      (F_cardinal_times v12 r26).bind fun (r28 : (api_Count × Bool)) =>
      F_cardinal_volume_L1 a0 a1 n23 r28.1 (IntKind.wrap .i64 (v13 + (1:Int)))
      else none
      else none
    else
      some v12
def F_cardinal_volume (a0 : (Arr5 api_Range)) (a1 : Int) : Option api_Count :=
  (F_cardinal_Number (1:Int)).bind fun (r1 : api_Count) =>
  if 0 ≤ a1 ∧ a1 ≤ (5:Int) ∧ (5:Int) ≤ (5 : Int) then
  (F_cardinal_volume_L1 a0 a1 fuel r1 (0:Int)).bind fun (v21 : api_Count) =>
    some v21
  else none
def F_cardinal_below_L1 (a0 : (Arr5 api_Range)) (a1 : api_Header) : Nat → api_Count → Int → Option api_Count
  | 0, _, _ => none
  | n120+1, v59, v60 =>
    if (decide (v60 < (5:Int))) = true then
      (if 0 ≤ v60 ∧ v60 < 5 then
      (F_box_Value a1 v60).bind fun (r152 : Int) =>
      (if (decide (r152 > (Arr5.get a0 v60).Lo)) = true then
        (F_cardinal_length (Arr5.get a0 v60)).bind fun (r165 : Int) =>
        (F_cardinal_volume a0 (IntKind.wrap .i64 (v60 + (1:Int)))).bind fun (r167 : api_Count) =>
        (F_cardinal_times r167 (iMin (IntKind.wrap .u64 ((IntKind.wrap .u64 r152) - (IntKind.wrap .u64 (Arr5.get a0 v60).Lo))) r165)).bind fun (r169 : (api_Count × Bool)) =>
        (F_cardinal_Add v59 r169.1).bind fun (r171 : api_Count) =>
        some r171
      else
        some v59).bind fun (v163 : api_Count) =>
        (some (decide (r152 < (Arr5.get a0 v60).Lo))).bind fun (b174 : Bool) =>
        if (b174 || (decide (r152 > (Arr5.get a0 v60).Hi))) = true then
          some (.inr v163)
        else
          some (.inl v163)
      else none).bind fun (o149 : (api_Count ⊕ api_Count)) =>
      match o149 with
      | .inl v147 =>
          F_cardinal_below_L1 a0 a1 n120 v147 (IntKind.wrap .i64 (v60 + (1:Int)))
      | .inr v148 =>
          some v148
    else
      some v59
def F_cardinal_below (a0 : (Arr5 api_Range)) (a1 : api_Header) : Option api_Count :=
  (F_cardinal_below_L1 a0 a1 fuel z_api_Count (0:Int)).bind fun (v118 : api_Count) =>
    some v118
def F_cardinal_Rank_L1 (a1 : api_Header) (r1 : ((List (Arr5 api_Range)) × Int)) : Nat → api_Count → Int → Option api_Count
  | 0, _, _ => none
  | n22+1, v11, v12 =>
    if (decide (v12 < (List.length r1.1 : Int))) = true then
      (idx r1.1 v12).bind fun (x23 : (Arr5 api_Range)) =>
      (F_cardinal_below x23 a1).bind fun (r25 : api_Count) =>
      (F_cardinal_Add v11 r25).bind fun (r27 : api_Count) =>
      F_cardinal_Rank_L1 a1 r1 n22 r27 (IntKind.wrap .i64 (v12 + (1:Int)))
    else
      some v11
def F_cardinal_Rank (a0 : (List (Arr5 api_Range))) (a1 : api_Header) : Option (api_Count × Int) :=
  (F_cardinal_set a0).bind fun (r1 : ((List (Arr5 api_Range)) × Int)) =>
  if (r1.2 != (0:Int)) = true then
    some ((api_Count.mk (0:Int) (0:Int)), r1.2)
  else
    (F_cardinal_Rank_L1 a1 r1 fuel z_api_Count (0:Int)).bind fun (v20 : api_Count) =>
      some (v20, (0:Int))
def F_cardinal_total_L1 (a0 : (List (Arr5 api_Range))) (a1 : Int) : Nat → api_Count → Int → Option api_Count
  | 0, _, _ => none
  | n20+1, v9, v10 =>
    if (decide (v10 < (List.length a0 : Int))) = true then
      (idx a0 v10).bind fun (x21 : (Arr5 api_Range)) =>
      (F_cardinal_volume x21 a1).bind fun (r23 : api_Count) =>
      (F_cardinal_Add v9 r23).bind fun (r25 : api_Count) =>
      F_cardinal_total_L1 a0 a1 n20 r25 (IntKind.wrap .i64 (v10 + (1:Int)))
    else
      some v9
def F_cardinal_total (a0 : (List (Arr5 api_Range))) (a1 : Int) : Option api_Count :=
  (F_cardinal_total_L1 a0 a1 fuel z_api_Count (0:Int)).bind fun (v18 : api_Count) =>
    some v18
def F_cardinal_Of (a0 : (List (Arr5 api_Range))) : Option (api_Count × Int) :=
  (F_cardinal_set a0).bind fun (r1 : ((List (Arr5 api_Range)) × Int)) =>
  if (r1.2 != (0:Int)) = true then
    some ((api_Count.mk (0:Int) (0:Int)), r1.2)
  else
    (F_cardinal_total r1.1 (0:Int)).bind fun (r3 : api_Count) =>
    some (r3, (0:Int))
def F_cardinal_subtract (a0 : api_Count) (a1 : api_Count) : Option api_Count :=
  if 0 ≤ a0.Lo ∧ 0 ≤ a1.Lo ∧ a1.Lo ≤ 18446744073709551615 ∧ 0 ≤ (0:Int) ∧ (0:Int) ≤ 1 then
  if 0 ≤ a0.Hi ∧ 0 ≤ a1.Hi ∧ a1.Hi ≤ 18446744073709551615 ∧ 0 ≤ (if a0.Lo < a1.Lo + (0:Int) then 1 else 0) ∧ (if a0.Lo < a1.Lo + (0:Int) then 1 else 0) ≤ 1 then
  some (api_Count.mk ((a0.Hi + 18446744073709551616 - a1.Hi - (if a0.Lo < a1.Lo + (0:Int) then 1 else 0)) % 18446744073709551616) ((a0.Lo + 18446744073709551616 - a1.Lo - (0:Int)) % 18446744073709551616))
  else none
  else none
def F_cardinal_whole_L1 (a0 : api_Count) (a1 : api_Count) : Nat → Int → Int → Option Int
  | 0, _, _ => none
  | n11+1, v1, v2 =>
    if (decide (v1 < v2)) = true then
      (F_cardinal_times a1 (IntKind.wrap .u64 (Int.tdiv (IntKind.wrap .u64 ((IntKind.wrap .u64 (v1 + v2)) + (1:Int))) (2:Int)))).bind fun (r12 : (api_Count × Bool)) =>
      (F_cardinal_Compare r12.1 a0).bind fun (r14 : Int) =>
      if (decide (r14 ≤ (0:Int))) = true then
        F_cardinal_whole_L1 a0 a1 n11 (IntKind.wrap .u64 (Int.tdiv (IntKind.wrap .u64 ((IntKind.wrap .u64 (v1 + v2)) + (1:Int))) (2:Int))) v2
      else
        F_cardinal_whole_L1 a0 a1 n11 v1 (IntKind.wrap .u64 ((IntKind.wrap .u64 (Int.tdiv (IntKind.wrap .u64 ((IntKind.wrap .u64 (v1 + v2)) + (1:Int))) (2:Int))) - (1:Int)))
    else
      some v1
def F_cardinal_whole (a0 : api_Count) (a1 : api_Count) (a2 : Int) : Option Int :=
  (F_cardinal_whole_L1 a0 a1 fuel (0:Int) a2).bind fun (v9 : Int) =>
    some v9
def F_box_header (a0 : (Arr5 Int)) : Option api_Header :=
  some (api_Header.mk a0.x0 a0.x1 (IntKind.wrap .u8 a0.x2) (IntKind.wrap .u16 a0.x3) (IntKind.wrap .u16 a0.x4))
def F_box_With (a0 : api_Header) (a1 : Int) (a2 : Int) : Option api_Header :=
  (some (decide (a1 < (0:Int)))).bind fun (b1 : Bool) =>
  (some (b1 || (decide (a1 ≥ (5:Int))))).bind fun (b3 : Bool) =>
  (if b3 = true then some true else
    if 0 ≤ a1 ∧ a1 < 5 then
    some (decide (a2 > (Arr5.get glob_box_tops a1)))
    else none
   ).bind fun (v6 : Bool) =>
  if v6 = true then
    some a0
  else
    (F_box_values a0).bind fun (r11 : (Arr5 Int)) =>
    if 0 ≤ a1 ∧ a1 < 5 then
    (F_box_header (Arr5.set r11 a1 a2)).bind fun (r16 : api_Header) =>
    some r16
    else none
def F_cardinal_Select_L3 (v184 : Int) (v410 : (List (Arr5 api_Range))) (x469 : (Arr5 api_Range)) : Nat → Int → Option Int
  | 0, _ => none
  | n485+1, v472 =>
    (some (decide (v472 < (List.length v410 : Int)))).bind fun (b486 : Bool) =>
    (if b486 = true then
      (idx v410 v472).bind fun (x488 : (Arr5 api_Range)) =>
      if 0 ≤ v184 ∧ v184 < 5 then
      some (eq_api_Range (Arr5.get x488 v184) (Arr5.get x469 v184))
      else none
     else some false).bind fun (v491 : Bool) =>
    if v491 = true then
      F_cardinal_Select_L3 v184 v410 x469 n485 (IntKind.wrap .i64 (v472 + (1:Int)))
    else
      some v472
def F_cardinal_Select_L2 (v182 : api_Header) (v184 : Int) : Nat → api_Count → (List (Arr5 api_Range)) → Option (api_Count × api_Header × (List (Arr5 api_Range)))
  | 0, _, _ => none
  | n468+1, v409, v410 =>
    if (decide ((List.length v410 : Int) > (0:Int))) = true then
      (idx v410 (0:Int)).bind fun (x469 : (Arr5 api_Range)) =>
      if 0 ≤ v184 ∧ v184 < 5 then
      (F_cardinal_Select_L3 v184 v410 x469 fuel (1:Int)).bind fun (v483 : Int) =>
        if 0 ≤ (0:Int) ∧ (0:Int) ≤ v483 ∧ v483 ≤ (List.length v410 : Int) then
        (F_cardinal_total (List.drop (Int.toNat (0:Int)) (List.take (Int.toNat v483) v410)) (IntKind.wrap .i64 (v184 + (1:Int)))).bind fun (r497 : api_Count) =>
        (F_cardinal_length (Arr5.get x469 v184)).bind fun (r499 : Int) =>
        (F_cardinal_times r497 r499).bind fun (r501 : (api_Count × Bool)) =>
        (F_cardinal_Compare v409 r501.1).bind fun (r503 : Int) =>
        if (decide (r503 ≥ (0:Int))) = true then
          (F_cardinal_subtract v409 r501.1).bind fun (r505 : api_Count) =>
          if 0 ≤ v483 ∧ v483 ≤ (List.length v410 : Int) ∧ (List.length v410 : Int) ≤ (List.length v410 : Int) then
          F_cardinal_Select_L2 v182 v184 n468 r505 (List.drop (Int.toNat v483) (List.take (Int.toNat (List.length v410 : Int)) v410))
          else none
        else
          (F_cardinal_length (Arr5.get x469 v184)).bind fun (r508 : Int) =>
          (F_cardinal_whole v409 r497 (IntKind.wrap .u64 (r508 - (1:Int)))).bind fun (r510 : Int) =>
          (F_cardinal_times r497 r510).bind fun (r512 : (api_Count × Bool)) =>
          (F_cardinal_subtract v409 r512.1).bind fun (r514 : api_Count) =>
          if 0 ≤ (0:Int) ∧ (0:Int) ≤ v483 ∧ v483 ≤ (List.length v410 : Int) then
          (F_box_With v182 v184 (IntKind.wrap .u32 ((Arr5.get x469 v184).Lo + (IntKind.wrap .u32 r510)))).bind fun (r517 : api_Header) =>
          some (r514, r517, (List.drop (Int.toNat (0:Int)) (List.take (Int.toNat v483) v410)))
          else none
        else none
      else none
    else
      some (v409, v182, v410)
def F_cardinal_Select_L1 : Nat → api_Count → api_Header → (List (Arr5 api_Range)) → Int → Option (api_Count × api_Header)
  | 0, _, _, _, _ => none
  | n355+1, v181, v182, v183, v184 =>
    if (decide (v184 < (5:Int))) = true then
      (F_cardinal_Select_L2 v182 v184 fuel v181 v183).bind fun (o466 : (api_Count × api_Header × (List (Arr5 api_Range)))) =>
      match o466 with
      | (v463, v464, v465) =>
        F_cardinal_Select_L1 n355 v463 v464 v465 (IntKind.wrap .i64 (v184 + (1:Int)))
    else
      some (v181, v182)
def F_cardinal_Select (a0 : (List (Arr5 api_Range))) (a1 : api_Count) : Option (api_Header × Bool) :=
  (F_cardinal_set a0).bind fun (r1 : ((List (Arr5 api_Range)) × Int)) =>
  (some (r1.2 != (0:Int))).bind fun (b3 : Bool) =>
  (if b3 = true then some true else
    (F_cardinal_total r1.1 (0:Int)).bind fun (r5 : api_Count) =>
    (F_cardinal_Compare a1 r5).bind fun (r7 : Int) =>
    some (decide (r7 ≥ (0:Int)))
   ).bind fun (v9 : Bool) =>
  if v9 = true then
    some (z_api_Header, false)
  else
    (F_cardinal_Select_L1 fuel a1 z_api_Header r1.1 (0:Int)).bind fun (o353 : (api_Count × api_Header)) =>
    match o353 with
    | (v351, v352) =>
      some (v352, true)
def F_nsgref3_Point (a0 : api_Header) : Option (Arr5 Int) :=
  some (Arr5.mk a0.Src a0.Dst (IntKind.wrap .u32 a0.Proto) (IntKind.wrap .u32 a0.SrcPort) (IntKind.wrap .u32 a0.DstPort))
def F_nsgref3_Valid_L1 (a0 : (Arr5 api_Range)) : Nat → Int → Option (Unit ⊕ Bool)
  | 0, _ => none
  | n17+1, v1 =>
    if (decide (v1 < (5:Int))) = true then
      if 0 ≤ v1 ∧ v1 < 5 then
      if 0 ≤ v1 ∧ v1 < 5 then
      (some (decide ((Arr5.get a0 v1).Lo > (Arr5.get a0 v1).Hi))).bind fun (b20 : Bool) =>
      (if b20 = true then some true else
        if 0 ≤ v1 ∧ v1 < 5 then
        (F_nsgref3_Top v1).bind fun (r23 : Int) =>
        some (decide ((Arr5.get a0 v1).Hi > r23))
        else none
       ).bind fun (v25 : Bool) =>
      if v25 = true then
        some (.inr false)
      else
        F_nsgref3_Valid_L1 a0 n17 (IntKind.wrap .i64 (v1 + (1:Int)))
      else none
      else none
    else
      some (.inl ())
def F_nsgref3_Valid (a0 : (Arr5 api_Range)) : Option Bool :=
  (F_nsgref3_Valid_L1 a0 fuel (0:Int)).bind fun (o15 : (Unit ⊕ Bool)) =>
  match o15 with
  | .inl () =>
      some true
  | .inr r31 =>
      some r31
def F_nsgref3_Contains_L1 (a0 : (Arr5 api_Range)) (r1 : (Arr5 Int)) : Nat → Int → Option (Unit ⊕ Bool)
  | 0, _ => none
  | n18+1, v3 =>
    if (decide (v3 < (5:Int))) = true then
      if 0 ≤ v3 ∧ v3 < 5 then
      if 0 ≤ v3 ∧ v3 < 5 then
      (some (decide ((Arr5.get r1 v3) < (Arr5.get a0 v3).Lo))).bind fun (b21 : Bool) =>
      (if b21 = true then some true else
        if 0 ≤ v3 ∧ v3 < 5 then
        if 0 ≤ v3 ∧ v3 < 5 then
        some (decide ((Arr5.get r1 v3) > (Arr5.get a0 v3).Hi))
        else none
        else none
       ).bind fun (v25 : Bool) =>
      if v25 = true then
        some (.inr false)
      else
        F_nsgref3_Contains_L1 a0 r1 n18 (IntKind.wrap .i64 (v3 + (1:Int)))
      else none
      else none
    else
      some (.inl ())
def F_nsgref3_Contains (a0 : (Arr5 api_Range)) (a1 : api_Header) : Option Bool :=
  (F_nsgref3_Point a1).bind fun (r1 : (Arr5 Int)) =>
  (F_nsgref3_Contains_L1 a0 r1 fuel (0:Int)).bind fun (o16 : (Unit ⊕ Bool)) =>
  match o16 with
  | .inl () =>
      (F_nsgref3_Valid a0).bind fun (r31 : Bool) =>
      some r31
  | .inr r33 =>
      some r33
def F_nsgref4_Contains_L1 (a0 : (List (Arr5 api_Range))) (a1 : api_Header) : Nat → Int → Option (Unit ⊕ Bool)
  | 0, _ => none
  | n10+1, v1 =>
    if (decide (v1 < (List.length a0 : Int))) = true then
      (idx a0 v1).bind fun (x11 : (Arr5 api_Range)) =>
      (F_nsgref3_Contains x11 a1).bind fun (r13 : Bool) =>
      if r13 = true then
        some (.inr true)
      else
        F_nsgref4_Contains_L1 a0 a1 n10 (IntKind.wrap .i64 (v1 + (1:Int)))
    else
      some (.inl ())
def F_nsgref4_Contains (a0 : (List (Arr5 api_Range))) (a1 : api_Header) : Option Bool :=
  (F_nsgref4_Contains_L1 a0 a1 fuel (0:Int)).bind fun (o8 : (Unit ⊕ Bool)) =>
  match o8 with
  | .inl () =>
      some false
  | .inr r17 =>
      some r17
def F_nsglaw5_CardinalInverse (a0 : (List Int)) (a1 : api_Count) : Option Bool :=
  (F_nsggen_New a0).bind fun (r1 : nsggen_Tape) =>
  (F_nsggen_Tape_Boxes r1 (4:Int) true).bind fun (r3 : ((List (Arr5 api_Range)) × nsggen_Tape)) =>
  (F_nsggen_Tape_Near r3.2 r3.1).bind fun (r5 : (api_Header × nsggen_Tape)) =>
  (F_cardinal_Rank r3.1 r5.1).bind fun (r7 : (api_Count × Int)) =>
  (F_cardinal_Of r3.1).bind fun (r9 : (api_Count × Int)) =>
  (F_cardinal_Select r3.1 r7.1).bind fun (r11 : (api_Header × Bool)) =>
  (some (r7.2 != (0:Int))).bind fun (b13 : Bool) =>
  if (b13 || (r9.2 != (0:Int))) = true then
    (some (r7.2 == (3:Int))).bind fun (b15 : Bool) =>
    (some (b15 || (r9.2 == (3:Int)))).bind fun (b17 : Bool) =>
    (if b17 = true then
      (F_nsglaw5_sane).bind fun (r19 : Bool) =>
      some r19
     else some false).bind fun (v21 : Bool) =>
    some v21
  else
    (F_nsgref4_Contains r3.1 r5.1).bind fun (r26 : Bool) =>
    (some r26).bind fun (b28 : Bool) =>
    (if b28 = true then
      (some (!r11.2)).bind fun (b30 : Bool) =>
      some (b30 || (!(eq_api_Header r11.1 r5.1)))
     else some false).bind fun (v32 : Bool) =>
    if v32 = true then
      some false
    else
      (F_cardinal_Select r3.1 ({ a1 with Hi := (Int.tmod a1.Hi (1099511627776:Int)) } : api_Count)).bind fun (r36 : (api_Header × Bool)) =>
      (F_cardinal_Compare ({ a1 with Hi := (Int.tmod a1.Hi (1099511627776:Int)) } : api_Count) r9.1).bind fun (r38 : Int) =>
      if (!(r36.2 == (decide (r38 < (0:Int))))) = true then
        some false
      else
        if (!r36.2) = true then
          (some (eq_api_Header r36.1 (api_Header.mk (0:Int) (0:Int) (0:Int) (0:Int) (0:Int)))).bind fun (b40 : Bool) =>
          (if b40 = true then
            (F_nsglaw5_sane).bind fun (r42 : Bool) =>
            some r42
           else some false).bind fun (v44 : Bool) =>
          some v44
        else
          (F_cardinal_Rank r3.1 r36.1).bind fun (r48 : (api_Count × Int)) =>
          (some (r48.2 == (0:Int))).bind fun (b50 : Bool) =>
          (some (b50 && (eq_api_Count r48.1 ({ a1 with Hi := (Int.tmod a1.Hi (1099511627776:Int)) } : api_Count)))).bind fun (b52 : Bool) =>
          (if b52 = true then
            (F_nsgref4_Contains r3.1 r36.1).bind fun (r54 : Bool) =>
            some r54
           else some false).bind fun (v56 : Bool) =>
          (some v56).bind fun (b58 : Bool) =>
          (if b58 = true then
            (F_nsglaw5_sane).bind fun (r60 : Bool) =>
            some r60
           else some false).bind fun (v62 : Bool) =>
          some v62
def F_nsgref3_Of_L1 (r1 : (Arr5 Int)) : Nat → (Arr5 api_Range) → Int → Option (Arr5 api_Range)
  | 0, _, _ => none
  | n24+1, v12, v13 =>
    if (decide (v13 < (5:Int))) = true then
      if 0 ≤ v13 ∧ v13 < 5 then
      if 0 ≤ v13 ∧ v13 < 5 then
      if 0 ≤ v13 ∧ v13 < 5 then
      F_nsgref3_Of_L1 r1 n24 (Arr5.set v12 v13 (api_Range.mk (Arr5.get r1 v13) (Arr5.get r1 v13))) (IntKind.wrap .i64 (v13 + (1:Int)))
      else none
      else none
      else none
    else
      some v12
def F_nsgref3_Of (a0 : api_Header) : Option (Arr5 api_Range) :=
  (F_nsgref3_Point a0).bind fun (r1 : (Arr5 Int)) =>
  (F_nsgref3_Of_L1 r1 fuel z_a5_api_Range (0:Int)).bind fun (v22 : (Arr5 api_Range)) =>
    some v22
def F_nsgref3_order (a0 : Int) (a1 : Int) : Option Int :=
  if (decide (a0 < a1)) = true then
    some (-1:Int)
  else
    if (decide (a0 > a1)) = true then
      some (1:Int)
    else
      some (0:Int)
def F_nsgref3_Compare_L1 (a0 : (Arr5 api_Range)) (a1 : (Arr5 api_Range)) : Nat → Int → Option (Unit ⊕ Int)
  | 0, _ => none
  | n19+1, v1 =>
    if (decide (v1 < (5:Int))) = true then
      if 0 ≤ v1 ∧ v1 < 5 then
      if 0 ≤ v1 ∧ v1 < 5 then
      if ((Arr5.get a0 v1).Lo != (Arr5.get a1 v1).Lo) = true then
        if 0 ≤ v1 ∧ v1 < 5 then
        if 0 ≤ v1 ∧ v1 < 5 then
        (F_nsgref3_order ((Arr5.get a0 v1).Lo) ((Arr5.get a1 v1).Lo)).bind fun (r24 : Int) =>
        some (.inr r24)
        else none
        else none
      else
        if 0 ≤ v1 ∧ v1 < 5 then
        if 0 ≤ v1 ∧ v1 < 5 then
        if ((Arr5.get a0 v1).Hi != (Arr5.get a1 v1).Hi) = true then
          if 0 ≤ v1 ∧ v1 < 5 then
          if 0 ≤ v1 ∧ v1 < 5 then
          (F_nsgref3_order ((Arr5.get a0 v1).Hi) ((Arr5.get a1 v1).Hi)).bind fun (r30 : Int) =>
          some (.inr r30)
          else none
          else none
        else
          F_nsgref3_Compare_L1 a0 a1 n19 (IntKind.wrap .i64 (v1 + (1:Int)))
        else none
        else none
      else none
      else none
    else
      some (.inl ())
def F_nsgref3_Compare (a0 : (Arr5 api_Range)) (a1 : (Arr5 api_Range)) : Option Int :=
  (F_nsgref3_Compare_L1 a0 a1 fuel (0:Int)).bind fun (o17 : (Unit ⊕ Int)) =>
  match o17 with
  | .inl () =>
      some (0:Int)
  | .inr r35 =>
      some r35
def F_nsgref3_Order (a0 : api_Header) (a1 : api_Header) : Option Int :=
  (F_nsgref3_Of a0).bind fun (r1 : (Arr5 api_Range)) =>
  (F_nsgref3_Of a1).bind fun (r3 : (Arr5 api_Range)) =>
  (F_nsgref3_Compare r1 r3).bind fun (r5 : Int) =>
  some r5
def F_nsgref3_With (a0 : api_Header) (a1 : Int) (a2 : Int) : Option api_Header :=
  (some (decide (a1 < (0:Int)))).bind fun (b1 : Bool) =>
  (some (b1 || (decide (a1 ≥ (5:Int))))).bind fun (b3 : Bool) =>
  (if b3 = true then some true else
    (F_nsgref3_Top a1).bind fun (r5 : Int) =>
    some (decide (a2 > r5))
   ).bind fun (v7 : Bool) =>
  if v7 = true then
    some a0
  else
    (F_nsgref3_Point a0).bind fun (r12 : (Arr5 Int)) =>
    if 0 ≤ a1 ∧ a1 < 5 then
    (F_nsgref3_Header (Arr5.set r12 a1 a2)).bind fun (r17 : api_Header) =>
    some r17
    else none
def F_nsglaw5_CardinalMonotone (a0 : (List Int)) (a1 : api_Header) (a2 : api_Header) : Option Bool :=
  (F_nsggen_New a0).bind fun (r1 : nsggen_Tape) =>
  (F_nsggen_Tape_Boxes r1 (4:Int) true).bind fun (r3 : ((List (Arr5 api_Range)) × nsggen_Tape)) =>
  ((F_nsggen_Tape_Next r3.2 (2:Int)).bind fun (r17 : (Int × nsggen_Tape)) =>
  if (r17.1 == (0:Int)) = true then
    (F_nsggen_Tape_Near r17.2 r3.1).bind fun (r19 : (api_Header × nsggen_Tape)) =>
    (F_nsggen_Tape_Near r19.2 r3.1).bind fun (r21 : (api_Header × nsggen_Tape)) =>
    some (r19.1, r21.1, r21.2)
  else
    some (a1, a2, r17.2)).bind fun (o15 : (api_Header × api_Header × nsggen_Tape)) =>
  match o15 with
  | (v12, v13, v14) =>
    ((F_nsgref3_Order v12 v13).bind fun (r31 : Int) =>
    if (decide (r31 > (0:Int))) = true then
      some (v13, v12)
    else
      some (v12, v13)).bind fun (o29 : (api_Header × api_Header)) =>
    match o29 with
    | (v27, v28) =>
      (F_cardinal_Rank r3.1 v27).bind fun (r34 : (api_Count × Int)) =>
      (F_cardinal_Rank r3.1 v28).bind fun (r36 : (api_Count × Int)) =>
      (some (r34.2 != (0:Int))).bind fun (b38 : Bool) =>
      if (b38 || (r36.2 != (0:Int))) = true then
        (some (r34.2 == (3:Int))).bind fun (b40 : Bool) =>
        (some (b40 || (r36.2 == (3:Int)))).bind fun (b42 : Bool) =>
        (if b42 = true then
          (F_nsglaw5_sane).bind fun (r44 : Bool) =>
          some r44
         else some false).bind fun (v46 : Bool) =>
        some v46
      else
        (F_cardinal_Compare r34.1 r36.1).bind fun (r51 : Int) =>
        if (decide (r51 > (0:Int))) = true then
          some false
        else
          (some (!(eq_api_Header v27 v28))).bind fun (b53 : Bool) =>
          (if b53 = true then
            (F_nsgref4_Contains r3.1 v27).bind fun (r55 : Bool) =>
            some r55
           else some false).bind fun (v57 : Bool) =>
          (some v57).bind fun (b59 : Bool) =>
          (if b59 = true then
            (F_cardinal_Compare r34.1 r36.1).bind fun (r61 : Int) =>
            some (decide (r61 ≥ (0:Int)))
           else some false).bind fun (v63 : Bool) =>
          if v63 = true then
            some false
          else
            (F_nsgref3_With v27 (4:Int) (IntKind.wrap .u32 ((IntKind.wrap .u32 v27.DstPort) + (1:Int)))).bind fun (r70 : api_Header) =>
            (F_cardinal_Rank r3.1 r70).bind fun (r72 : (api_Count × Int)) =>
            ((F_nsgref4_Contains r3.1 v27).bind fun (r83 : Bool) =>
            if r83 = true then
              (F_cardinal_Number (1:Int)).bind fun (r85 : api_Count) =>
              (F_cardinal_Add r34.1 r85).bind fun (r87 : api_Count) =>
              some r87
            else
              some r34.1).bind fun (v81 : api_Count) =>
              (some (r72.2 == (0:Int))).bind fun (b90 : Bool) =>
              (if b90 = true then
                (some (eq_api_Header r70 v27)).bind fun (b92 : Bool) =>
                some (b92 || (eq_api_Count r72.1 v81))
               else some false).bind fun (v94 : Bool) =>
              (some v94).bind fun (b96 : Bool) =>
              (if b96 = true then
                (F_nsglaw5_sane).bind fun (r98 : Bool) =>
                some r98
               else some false).bind fun (v100 : Bool) =>
              some v100
end Go.AM

/- Printed by gen.py: what the functions compute. -/
import Derived.Test.YtkeeaccnnljimaaDoorBD
import Derived.Test.YtkeeaccnnljimaaDoorTy
set_option maxRecDepth 100000
namespace Go.AM
open Go
def F_nsglaw6_sane : Option Bool :=
  some true
def F_nsggen_New (a0 : (List Int)) : Option nsggen_Tape :=
  some (nsggen_Tape.mk a0 (0:Int))
def F_nsggen_Mod (a0 : Int) (a1 : Int) : Option Int :=
  if (IntKind.wrap .u64 a1) ≠ 0 then
  some (IntKind.wrap .i64 (Int.tmod (IntKind.wrap .u64 a0) (IntKind.wrap .u64 a1)))
  else none
def F_nsggen_Tape_Next (a0 : nsggen_Tape) (a1 : Int) : Option (Int × nsggen_Tape) :=
  (some (decide (a1 ≤ (1:Int)))).bind fun (b1 : Bool) =>
  if (b1 || (decide (a0.f_i ≥ (List.length a0.f_l : Int)))) = true then
    some ((0:Int), a0)
  else
    (idx a0.f_l (IntKind.wrap .i64 ((IntKind.wrap .i64 (a0.f_i + (1:Int))) - (1:Int)))).bind fun (x3 : Int) =>
    (F_nsggen_Mod x3 a1).bind fun (r5 : Int) =>
    some (r5, ({ a0 with f_i := (IntKind.wrap .i64 (a0.f_i + (1:Int))) } : nsggen_Tape))
def F_nsgref3_Top (a0 : Int) : Option Int :=
  ((if (a0 == (0:Int)) = true then
    some (a0 == (0:Int))
  else
    some (a0 == (1:Int))).bind fun (v15 : Bool) =>
    if v15 = true then
      some (.inr (4294967295:Int))
    else
      if (a0 == (2:Int)) = true then
        some (.inr (255:Int))
      else
        (if (a0 == (3:Int)) = true then
          some (a0 == (3:Int))
        else
          some (a0 == (4:Int))).bind fun (v19 : Bool) =>
          if v19 = true then
            some (.inr (65535:Int))
          else
            some (.inl ())).bind fun (o12 : (Unit ⊕ Int)) =>
  match o12 with
  | .inl () =>
      some (0:Int)
  | .inr r25 =>
      some r25
def F_nsgref3_Full_L1 : Nat → (Arr5 api_Range) → Int → Option (Arr5 api_Range)
  | 0, _, _ => none
  | n18+1, v8, v9 =>
    if (decide (v9 < (5:Int))) = true then
      (F_nsgref3_Top v9).bind fun (r19 : Int) =>
      if 0 ≤ v9 ∧ v9 < 5 then
      F_nsgref3_Full_L1 n18 (Arr5.set v8 v9 ({ (Arr5.get v8 v9) with Hi := r19 } : api_Range)) (IntKind.wrap .i64 (v9 + (1:Int)))
      else none
    else
      some v8
def F_nsgref3_Full : Option (Arr5 api_Range) :=
  (F_nsgref3_Full_L1 fuel z_a5_api_Range (0:Int)).bind fun (v16 : (Arr5 api_Range)) =>
    some v16
def F_nsggen_Tape_Number (a0 : nsggen_Tape) (a1 : Int) : Option (Int × nsggen_Tape) :=
  (F_nsggen_Tape_Next a0 (17:Int)).bind fun (r1 : (Int × nsggen_Tape)) =>
  (idx [(0:Int), (1:Int), (2:Int), (5:Int), (7:Int), (8:Int), (9:Int), (15:Int), (16:Int), (80:Int), (255:Int), (256:Int), (1024:Int), (65535:Int), (IntKind.wrap .u32 (Int.tdiv a1 (2:Int))), (IntKind.wrap .u32 (a1 - (1:Int))), a1] r1.1).bind fun (x3 : Int) =>
  some ((iMin x3 a1), r1.2)
def F_nsggen_Subnet (a0 : Int) : Option api_Prefix :=
  (F_nsggen_Mod a0 (6:Int)).bind fun (r1 : Int) =>
  (idx [(api_Prefix.mk (167772160:Int) (24:Int)), (api_Prefix.mk (167772416:Int) (24:Int)), (api_Prefix.mk (167772672:Int) (25:Int)), (api_Prefix.mk (167772800:Int) (26:Int)), (api_Prefix.mk (2886729728:Int) (16:Int)), (api_Prefix.mk (3232237321:Int) (32:Int))] r1).bind fun (x3 : api_Prefix) =>
  some x3
def F_nsgref1_size (a0 : Int) : Option Int :=
  if 0 ≤ (IntKind.wrap .u64 (IntKind.wrap .i64 ((32:Int) - a0))) then
  some (bShl .u64 (1:Int) (IntKind.wrap .u64 (IntKind.wrap .i64 ((32:Int) - a0))))
  else none
def F_nsgref1_Valid (a0 : api_Prefix) : Option Bool :=
  (some (decide (a0.Bits ≥ (0:Int)))).bind fun (b1 : Bool) =>
  (some (b1 && (decide (a0.Bits ≤ (32:Int))))).bind fun (b3 : Bool) =>
  (if b3 = true then
    (F_nsgref1_size a0.Bits).bind fun (r5 : Int) =>
    if r5 ≠ 0 then
    some ((Int.tmod (IntKind.wrap .u64 a0.Addr) r5) == (0:Int))
    else none
   else some false).bind fun (v8 : Bool) =>
  some v8
def F_nsgref1_Of (a0 : api_Prefix) : Option (api_Range × Bool) :=
  (F_nsgref1_Valid a0).bind fun (r1 : Bool) =>
  if (!r1) = true then
    some ((api_Range.mk (0:Int) (0:Int)), false)
  else
    (F_nsgref1_size a0.Bits).bind fun (r3 : Int) =>
    some ((api_Range.mk a0.Addr (IntKind.wrap .u32 (IntKind.wrap .u64 ((IntKind.wrap .u64 ((IntKind.wrap .u64 a0.Addr) + r3)) - (1:Int))))), true)
def F_nsggen_Tape_Move (a0 : nsggen_Tape) : Option (api_Move × nsggen_Tape) :=
  (F_nsgref3_Full).bind fun (r1 : (Arr5 api_Range)) =>
  (F_nsggen_Tape_Next a0 (2:Int)).bind fun (r3 : (Int × nsggen_Tape)) =>
  (idx [(6:Int), (17:Int)] r3.1).bind fun (x5 : Int) =>
  (F_nsggen_Tape_Next r3.2 (2:Int)).bind fun (r7 : (Int × nsggen_Tape)) =>
  (idx [(3405803781:Int), (3405803782:Int)] r7.1).bind fun (x9 : Int) =>
  (F_nsggen_Tape_Number r7.2 (65000:Int)).bind fun (r11 : (Int × nsggen_Tape)) =>
  (F_nsggen_Tape_Next r11.2 (3:Int)).bind fun (r13 : (Int × nsggen_Tape)) =>
  (F_nsggen_Tape_Next r13.2 (4:Int)).bind fun (r15 : (Int × nsggen_Tape)) =>
  (F_nsggen_Tape_Next r15.2 (5:Int)).bind fun (r17 : (Int × nsggen_Tape)) =>
  (F_nsggen_Subnet r17.1).bind fun (r19 : api_Prefix) =>
  (F_nsgref1_Of r19).bind fun (r21 : (api_Range × Bool)) =>
  (F_nsggen_Tape_Number r17.2 (65000:Int)).bind fun (r23 : (Int × nsggen_Tape)) =>
  some ((api_Move.mk ({ ({ ({ r1 with x2 := (api_Range.mk x5 x5) } : (Arr5 api_Range)) with x1 := (api_Range.mk x9 (IntKind.wrap .u32 (x9 + (IntKind.wrap .u32 r13.1)))) } : (Arr5 api_Range)) with x4 := (api_Range.mk r11.1 (IntKind.wrap .u32 (r11.1 + (iMin (IntKind.wrap .u32 r15.1) (IntKind.wrap .u32 ((65535:Int) - r11.1)))))) } : (Arr5 api_Range)) ({ ({ ({ ({ ({ r1 with x2 := (api_Range.mk x5 x5) } : (Arr5 api_Range)) with x1 := (api_Range.mk x9 (IntKind.wrap .u32 (x9 + (IntKind.wrap .u32 r13.1)))) } : (Arr5 api_Range)) with x4 := (api_Range.mk r11.1 (IntKind.wrap .u32 (r11.1 + (iMin (IntKind.wrap .u32 r15.1) (IntKind.wrap .u32 ((65535:Int) - r11.1)))))) } : (Arr5 api_Range)) with x1 := (api_Range.mk r21.1.Lo (IntKind.wrap .u32 (r21.1.Lo + (IntKind.wrap .u32 r13.1)))) } : (Arr5 api_Range)) with x4 := (api_Range.mk (iMin r23.1 (IntKind.wrap .u32 ((65535:Int) - (iMin (IntKind.wrap .u32 r15.1) (IntKind.wrap .u32 ((65535:Int) - r11.1)))))) (IntKind.wrap .u32 ((iMin r23.1 (IntKind.wrap .u32 ((65535:Int) - (iMin (IntKind.wrap .u32 r15.1) (IntKind.wrap .u32 ((65535:Int) - r11.1)))))) + (iMin (IntKind.wrap .u32 r15.1) (IntKind.wrap .u32 ((65535:Int) - r11.1)))))) } : (Arr5 api_Range))), r23.2)
def F_nsggen_Tape_SpoilBox (a0 : nsggen_Tape) (a1 : (Arr5 api_Range)) : Option ((Arr5 api_Range) × nsggen_Tape) :=
  (F_nsggen_Tape_Next a0 (5:Int)).bind fun (r1 : (Int × nsggen_Tape)) =>
  ((F_nsggen_Tape_Next r1.2 (3:Int)).bind fun (r29 : (Int × nsggen_Tape)) =>
  if (r29.1 == (0:Int)) = true then
    if 0 ≤ r1.1 ∧ r1.1 < 5 then
    if 0 ≤ r1.1 ∧ r1.1 < 5 then
    if 0 ≤ r1.1 ∧ r1.1 < 5 then
    if 0 ≤ r1.1 ∧ r1.1 < 5 then
    some (r29.2, (Arr5.set (Arr5.set a1 r1.1 ({ (Arr5.get a1 r1.1) with Lo := (Arr5.get a1 r1.1).Hi } : api_Range)) r1.1 ({ (Arr5.get (Arr5.set a1 r1.1 ({ (Arr5.get a1 r1.1) with Lo := (Arr5.get a1 r1.1).Hi } : api_Range)) r1.1) with Hi := (Arr5.get a1 r1.1).Lo } : api_Range)))
    else none
    else none
    else none
    else none
  else
    if (r29.1 == (1:Int)) = true then
      if 0 ≤ r1.1 ∧ r1.1 < 5 then
      some (r29.2, (Arr5.set a1 r1.1 ({ (Arr5.get a1 r1.1) with Hi := (4294967295:Int) } : api_Range)))
      else none
    else
      if 0 ≤ r1.1 ∧ r1.1 < 5 then
      some (r29.2, (Arr5.set a1 r1.1 (api_Range.mk (1:Int) (0:Int))))
      else none).bind fun (o27 : (nsggen_Tape × (Arr5 api_Range))) =>
  match o27 with
  | (v25, v26) =>
    some (v26, v25)
def F_nsggen_Tape_Moves_L1 (a2 : Bool) : Nat → nsggen_Tape → (List api_Move) → Int → Option (nsggen_Tape × (List api_Move))
  | 0, _, _, _ => none
  | n225+1, v111, v112, v113 =>
    if (decide (v113 > (0:Int))) = true then
      ((F_nsggen_Tape_Move v111).bind fun (r281 : (api_Move × nsggen_Tape)) =>
      ((some a2).bind fun (b298 : Bool) =>
      (if b298 = true then
        (F_nsggen_Tape_Next r281.2 (6:Int)).bind fun (r300 : (Int × nsggen_Tape)) =>
        some ((r300.1 == (5:Int)), r300.2)
       else some (false, r281.2)).bind fun (v302 : Bool × nsggen_Tape) =>
      if v302.1 = true then
        (F_nsggen_Tape_SpoilBox v302.2 r281.1.To).bind fun (r306 : ((Arr5 api_Range) × nsggen_Tape)) =>
        some (r306.2, ({ r281.1 with To := r306.1 } : api_Move))
      else
        some (v302.2, r281.1)).bind fun (o296 : (nsggen_Tape × api_Move)) =>
      match o296 with
      | (v294, v295) =>
        ((some a2).bind fun (b322 : Bool) =>
        (if b322 = true then
          (F_nsggen_Tape_Next v294 (6:Int)).bind fun (r324 : (Int × nsggen_Tape)) =>
          some ((r324.1 == (5:Int)), r324.2)
         else some (false, v294)).bind fun (v326 : Bool × nsggen_Tape) =>
        if v326.1 = true then
          some (v326.2, ({ ({ v295 with From := v295.To } : api_Move) with To := v295.From } : api_Move))
        else
          some (v326.2, v295)).bind fun (o320 : (nsggen_Tape × api_Move)) =>
        match o320 with
        | (v318, v319) =>
          if List.length v112 + List.length [v319] ≤ lim then
          some (v318, (v112 ++ [v319]))
          else none).bind fun (o279 : (nsggen_Tape × (List api_Move))) =>
      match o279 with
      | (v277, v278) =>
        F_nsggen_Tape_Moves_L1 a2 n225 v277 v278 (IntKind.wrap .i64 (v113 - (1:Int)))
    else
      some (v111, v112)
def F_nsggen_Tape_Moves (a0 : nsggen_Tape) (a1 : Int) (a2 : Bool) : Option ((List api_Move) × nsggen_Tape) :=
  (F_nsggen_Tape_Next a0 (IntKind.wrap .i64 (a1 + (1:Int)))).bind fun (r1 : (Int × nsggen_Tape)) =>
  (F_nsggen_Tape_Moves_L1 a2 fuel r1.2 ([] : (List api_Move)) r1.1).bind fun (o223 : (nsggen_Tape × (List api_Move))) =>
  match o223 with
  | (v221, v222) =>
    some (v222, v221)
def F_nsgref3_Valid_L1 (a0 : (Arr5 api_Range)) : Nat → Int → Option (Unit ⊕ Bool)
  | 0, _ => none
  | n17+1, v1 =>
    if (decide (v1 < (5:Int))) = true then
      if 0 ≤ v1 ∧ v1 < 5 then
      if 0 ≤ v1 ∧ v1 < 5 then
      (some (decide ((Arr5.get a0 v1).Lo > (Arr5.get a0 v1).Hi))).bind fun (b20 : Bool) =>
      (if b20 = true then some true else
        if 0 ≤ v1 ∧ v1 < 5 then
        (F_nsgref3_Top v1).bind fun (r23 : Int) =>
        some (decide ((Arr5.get a0 v1).Hi > r23))
        else none
       ).bind fun (v25 : Bool) =>
      if v25 = true then
        some (.inr false)
      else
        F_nsgref3_Valid_L1 a0 n17 (IntKind.wrap .i64 (v1 + (1:Int)))
      else none
      else none
    else
      some (.inl ())
def F_nsgref3_Valid (a0 : (Arr5 api_Range)) : Option Bool :=
  (F_nsgref3_Valid_L1 a0 fuel (0:Int)).bind fun (o15 : (Unit ⊕ Bool)) =>
  match o15 with
  | .inl () =>
      some true
  | .inr r31 =>
      some r31
def F_nsgref6_ValidMove_L1 (a0 : api_Move) : Nat → Int → Option (Unit ⊕ Bool)
  | 0, _ => none
  | n10+1, v1 =>
    if (decide (v1 < (5:Int))) = true then
      if 0 ≤ v1 ∧ v1 < 5 then
      if 0 ≤ v1 ∧ v1 < 5 then
      if 0 ≤ v1 ∧ v1 < 5 then
      if 0 ≤ v1 ∧ v1 < 5 then
      if ((IntKind.wrap .u32 ((Arr5.get a0.From v1).Hi - (Arr5.get a0.From v1).Lo)) != (IntKind.wrap .u32 ((Arr5.get a0.To v1).Hi - (Arr5.get a0.To v1).Lo))) = true then
        some (.inr false)
      else
        F_nsgref6_ValidMove_L1 a0 n10 (IntKind.wrap .i64 (v1 + (1:Int)))
      else none
      else none
      else none
      else none
    else
      some (.inl ())
def F_nsgref6_ValidMove (a0 : api_Move) : Option Bool :=
  (F_nsgref6_ValidMove_L1 a0 fuel (0:Int)).bind fun (o8 : (Unit ⊕ Bool)) =>
  match o8 with
  | .inl () =>
      (F_nsgref3_Valid a0.From).bind fun (r17 : Bool) =>
      (some r17).bind fun (b19 : Bool) =>
      (if b19 = true then
        (F_nsgref3_Valid a0.To).bind fun (r21 : Bool) =>
        some r21
       else some false).bind fun (v23 : Bool) =>
      some v23
  | .inr r27 =>
      some r27
def F_nsgref3_Intersect_L1 (a0 : (Arr5 api_Range)) (a1 : (Arr5 api_Range)) : Nat → (Arr5 api_Range) → Int → Option (Arr5 api_Range)
  | 0, _, _ => none
  | n26+1, v12, v13 =>
    if (decide (v13 < (5:Int))) = true then
      if 0 ≤ v13 ∧ v13 < 5 then
      if 0 ≤ v13 ∧ v13 < 5 then
      if 0 ≤ v13 ∧ v13 < 5 then
      if 0 ≤ v13 ∧ v13 < 5 then
      if 0 ≤ v13 ∧ v13 < 5 then
      F_nsgref3_Intersect_L1 a0 a1 n26 (Arr5.set v12 v13 (api_Range.mk (iMax ((Arr5.get a0 v13).Lo) ((Arr5.get a1 v13).Lo)) (iMin ((Arr5.get a0 v13).Hi) ((Arr5.get a1 v13).Hi)))) (IntKind.wrap .i64 (v13 + (1:Int)))
      else none
      else none
      else none
      else none
      else none
    else
      some v12
def F_nsgref3_Intersect (a0 : (Arr5 api_Range)) (a1 : (Arr5 api_Range)) : Option ((Arr5 api_Range) × Bool) :=
  (F_nsgref3_Intersect_L1 a0 a1 fuel z_a5_api_Range (0:Int)).bind fun (v24 : (Arr5 api_Range)) =>
    (F_nsgref3_Valid a0).bind fun (r37 : Bool) =>
    (some (!r37)).bind fun (b39 : Bool) =>
    (if b39 = true then some true else
      (F_nsgref3_Valid a1).bind fun (r41 : Bool) =>
      some (!r41)
     ).bind fun (v43 : Bool) =>
    (some v43).bind fun (b45 : Bool) =>
    (if b45 = true then some true else
      (F_nsgref3_Valid v24).bind fun (r47 : Bool) =>
      some (!r47)
     ).bind fun (v49 : Bool) =>
    if v49 = true then
      some ((Arr5.mk z_api_Range z_api_Range z_api_Range z_api_Range z_api_Range), false)
    else
      some (v24, true)
def F_nsgref6_Valid_L2 (a0 : (List api_Move)) (v1 : Int) : Nat → Int → Option (Unit ⊕ Bool)
  | 0, _ => none
  | n47+1, v36 =>
    if (decide (v36 < v1)) = true then
      (idx a0 v1).bind fun (x48 : api_Move) =>
      (idx a0 v36).bind fun (x50 : api_Move) =>
      (F_nsgref3_Intersect x48.From x50.From).bind fun (r52 : ((Arr5 api_Range) × Bool)) =>
      if r52.2 = true then
        some (.inr false)
      else
        F_nsgref6_Valid_L2 a0 v1 n47 (IntKind.wrap .i64 (v36 + (1:Int)))
    else
      some (.inl ())
def F_nsgref6_Valid_L1 (a0 : (List api_Move)) : Nat → Int → Option (Unit ⊕ Bool)
  | 0, _ => none
  | n31+1, v1 =>
    if (decide (v1 < (List.length a0 : Int))) = true then
      (idx a0 v1).bind fun (x32 : api_Move) =>
      (F_nsgref6_ValidMove x32).bind fun (r34 : Bool) =>
      if (!r34) = true then
        some (.inr false)
      else
        (F_nsgref6_Valid_L2 a0 v1 fuel (0:Int)).bind fun (o45 : (Unit ⊕ Bool)) =>
        match o45 with
        | .inl () =>
            F_nsgref6_Valid_L1 a0 n31 (IntKind.wrap .i64 (v1 + (1:Int)))
        | .inr r56 =>
            some (.inr r56)
    else
      some (.inl ())
def F_nsgref6_Valid (a0 : (List api_Move)) : Option Bool :=
  if (decide ((List.length a0 : Int) > (64:Int))) = true then
    some false
  else
    (F_nsgref6_Valid_L1 a0 fuel (0:Int)).bind fun (o29 : (Unit ⊕ Bool)) =>
    match o29 with
    | .inl () =>
        some true
    | .inr r59 =>
        some r59
def F_nsgref6_Inverse_L1 (a0 : (List api_Move)) : Nat → (List api_Move) → Int → Option (List api_Move)
  | 0, _, _ => none
  | n18+1, v8, v9 =>
    if (decide (v9 < (List.length a0 : Int))) = true then
      (idx a0 v9).bind fun (x19 : api_Move) =>
      (idx a0 v9).bind fun (x21 : api_Move) =>
      if List.length v8 + List.length [(api_Move.mk x19.To x21.From)] ≤ lim then
      F_nsgref6_Inverse_L1 a0 n18 (v8 ++ [(api_Move.mk x19.To x21.From)]) (IntKind.wrap .i64 (v9 + (1:Int)))
      else none
    else
      some v8
def F_nsgref6_Inverse (a0 : (List api_Move)) : Option (List api_Move) :=
  (F_nsgref6_Inverse_L1 a0 fuel ([] : (List api_Move)) (0:Int)).bind fun (v16 : (List api_Move)) =>
    some v16
def F_nsglaw6_ends_L1 (a0 : (List api_Move)) : Nat → (List (Arr5 api_Range)) → Int → Option (List (Arr5 api_Range))
  | 0, _, _ => none
  | n18+1, v8, v9 =>
    if (decide (v9 < (List.length a0 : Int))) = true then
      (idx a0 v9).bind fun (x19 : api_Move) =>
      (idx a0 v9).bind fun (x21 : api_Move) =>
      if List.length v8 + List.length [x19.From, x21.To] ≤ lim then
      F_nsglaw6_ends_L1 a0 n18 (v8 ++ [x19.From, x21.To]) (IntKind.wrap .i64 (v9 + (1:Int)))
      else none
    else
      some v8
def F_nsglaw6_ends (a0 : (List api_Move)) : Option (List (Arr5 api_Range)) :=
  (F_nsglaw6_ends_L1 a0 fuel ([] : (List (Arr5 api_Range))) (0:Int)).bind fun (v16 : (List (Arr5 api_Range))) =>
    some v16
def F_nsggen_Tape_Addr (a0 : nsggen_Tape) : Option (Int × nsggen_Tape) :=
  (F_nsggen_Tape_Next a0 (5:Int)).bind fun (r1 : (Int × nsggen_Tape)) =>
  if (r1.1 == (4:Int)) = true then
    (F_nsggen_Tape_Next r1.2 (6:Int)).bind fun (r3 : (Int × nsggen_Tape)) =>
    (idx [(0:Int), (4294967295:Int), (3405803781:Int), (3325256705:Int), (168296448:Int), (2130706433:Int)] r3.1).bind fun (x5 : Int) =>
    some (x5, r3.2)
  else
    (F_nsggen_Tape_Next r1.2 (6:Int)).bind fun (r7 : (Int × nsggen_Tape)) =>
    (F_nsggen_Subnet r7.1).bind fun (r9 : api_Prefix) =>
    (F_nsgref1_Of r9).bind fun (r11 : (api_Range × Bool)) =>
    (F_nsggen_Tape_Next r7.2 (5:Int)).bind fun (r13 : (Int × nsggen_Tape)) =>
    (idx [r11.1.Lo, r11.1.Hi, (IntKind.wrap .u32 (r11.1.Lo + (5:Int))), (IntKind.wrap .u32 (r11.1.Hi + (1:Int))), (IntKind.wrap .u32 (r11.1.Lo - (1:Int)))] r13.1).bind fun (x15 : Int) =>
    some (x15, r13.2)
def F_nsggen_Tape_Header (a0 : nsggen_Tape) : Option (api_Header × nsggen_Tape) :=
  (F_nsggen_Tape_Addr a0).bind fun (r1 : (Int × nsggen_Tape)) =>
  (F_nsggen_Tape_Addr r1.2).bind fun (r3 : (Int × nsggen_Tape)) =>
  (F_nsggen_Tape_Next r3.2 (6:Int)).bind fun (r5 : (Int × nsggen_Tape)) =>
  (idx [(6:Int), (17:Int), (1:Int), (0:Int), (7:Int), (255:Int)] r5.1).bind fun (x7 : Int) =>
  (F_nsggen_Tape_Number r5.2 (65535:Int)).bind fun (r9 : (Int × nsggen_Tape)) =>
  (F_nsggen_Tape_Number r9.2 (65535:Int)).bind fun (r11 : (Int × nsggen_Tape)) =>
  some ((api_Header.mk r1.1 r3.1 x7 (IntKind.wrap .u16 r9.1) (IntKind.wrap .u16 r11.1)), r11.2)
def F_nsgref3_Header (a0 : (Arr5 Int)) : Option api_Header :=
  some (api_Header.mk a0.x0 a0.x1 (IntKind.wrap .u8 a0.x2) (IntKind.wrap .u16 a0.x3) (IntKind.wrap .u16 a0.x4))
def F_nsggen_Tape_Near_L1 (x13 : (Arr5 api_Range)) : Nat → nsggen_Tape → (Arr5 Int) → Int → Option (nsggen_Tape × (Arr5 Int))
  | 0, _, _, _ => none
  | n73+1, v41, v42, v43 =>
    if (decide (v43 < (5:Int))) = true then
      if 0 ≤ v43 ∧ v43 < 5 then
      if 0 ≤ v43 ∧ v43 < 5 then
      if 0 ≤ v43 ∧ v43 < 5 then
      if 0 ≤ v43 ∧ v43 < 5 then
      if 0 ≤ v43 ∧ v43 < 5 then
      if 0 ≤ v43 ∧ v43 < 5 then
      if 0 ≤ v43 ∧ v43 < 5 then
      (F_nsggen_Tape_Next v41 (5:Int)).bind fun (r81 : (Int × nsggen_Tape)) =>
      (idx [(Arr5.get x13 v43).Lo, (Arr5.get x13 v43).Hi, (IntKind.wrap .u32 ((Arr5.get x13 v43).Lo - (1:Int))), (IntKind.wrap .u32 ((Arr5.get x13 v43).Hi + (1:Int))), (IntKind.wrap .u32 ((Arr5.get x13 v43).Lo + (IntKind.wrap .u32 (Int.tdiv (IntKind.wrap .u32 ((Arr5.get x13 v43).Hi - (Arr5.get x13 v43).Lo)) (2:Int)))))] r81.1).bind fun (x83 : Int) =>
      if 0 ≤ v43 ∧ v43 < 5 then
      if 0 ≤ v43 ∧ v43 < 5 then
      (F_nsgref3_Top v43).bind fun (r91 : Int) =>
      if 0 ≤ v43 ∧ v43 < 5 then
      F_nsggen_Tape_Near_L1 x13 n73 r81.2 (Arr5.set (Arr5.set v42 v43 x83) v43 (iMin (Arr5.get (Arr5.set v42 v43 x83) v43) r91)) (IntKind.wrap .i64 (v43 + (1:Int)))
      else none
      else none
      else none
      else none
      else none
      else none
      else none
      else none
      else none
      else none
    else
      some (v41, v42)
def F_nsggen_Tape_Near (a0 : nsggen_Tape) (a1 : (List (Arr5 api_Range))) : Option (api_Header × nsggen_Tape) :=
  (some ((List.length a1 : Int) == (0:Int))).bind fun (b1 : Bool) =>
  (if b1 = true then some (true, a0) else
    (F_nsggen_Tape_Next a0 (4:Int)).bind fun (r3 : (Int × nsggen_Tape)) =>
    some ((r3.1 == (3:Int)), r3.2)
   ).bind fun (v5 : Bool × nsggen_Tape) =>
  if v5.1 = true then
    (F_nsggen_Tape_Header v5.2).bind fun (r9 : (api_Header × nsggen_Tape)) =>
    some (r9.1, r9.2)
  else
    (F_nsggen_Tape_Next v5.2 (List.length a1 : Int)).bind fun (r11 : (Int × nsggen_Tape)) =>
    (idx a1 r11.1).bind fun (x13 : (Arr5 api_Range)) =>
    (F_nsggen_Tape_Near_L1 x13 fuel r11.2 z_a5_u32 (0:Int)).bind fun (o71 : (nsggen_Tape × (Arr5 Int))) =>
    match o71 with
    | (v69, v70) =>
      (F_nsgref3_Header v70).bind fun (r99 : api_Header) =>
      some (r99, v69)
def F_rewrite_turned (a0 : api_Move) : Option api_Move :=
  some (api_Move.mk a0.To a0.From)
def F_rewrite_Inverse_L1 (a0 : (List api_Move)) : Nat → (List api_Move) → Int → Option (List api_Move)
  | 0, _, _ => none
  | n18+1, v8, v9 =>
    if (decide (v9 < (List.length a0 : Int))) = true then
      (idx a0 v9).bind fun (x19 : api_Move) =>
      (F_rewrite_turned x19).bind fun (r21 : api_Move) =>
      if List.length v8 + List.length [r21] ≤ lim then
      F_rewrite_Inverse_L1 a0 n18 (v8 ++ [r21]) (IntKind.wrap .i64 (v9 + (1:Int)))
      else none
    else
      some v8
def F_rewrite_Inverse (a0 : (List api_Move)) : Option (List api_Move) :=
  (F_rewrite_Inverse_L1 a0 fuel ([] : (List api_Move)) (0:Int)).bind fun (v16 : (List api_Move)) =>
    some v16
def F_box_Valid_L1 (a0 : (Arr5 api_Range)) : Nat → Int → Option (Unit ⊕ Bool)
  | 0, _ => none
  | n14+1, v1 =>
    if (decide (v1 < (5:Int))) = true then
      if 0 ≤ v1 ∧ v1 < 5 then
      (some (decide ((Arr5.get a0 v1).Lo > (Arr5.get a0 v1).Hi))).bind fun (b16 : Bool) =>
      (if b16 = true then some true else
        if 0 ≤ v1 ∧ v1 < 5 then
        some (decide ((Arr5.get a0 v1).Hi > (Arr5.get glob_box_tops v1)))
        else none
       ).bind fun (v19 : Bool) =>
      if v19 = true then
        some (.inr false)
      else
        F_box_Valid_L1 a0 n14 (IntKind.wrap .i64 (v1 + (1:Int)))
      else none
    else
      some (.inl ())
def F_box_Valid (a0 : (Arr5 api_Range)) : Option Bool :=
  (F_box_Valid_L1 a0 fuel (0:Int)).bind fun (o12 : (Unit ⊕ Bool)) =>
  match o12 with
  | .inl () =>
      some true
  | .inr r25 =>
      some r25
def F_rewrite_validMove_L1 (a0 : api_Move) : Nat → Int → Option (Unit ⊕ Bool)
  | 0, _ => none
  | n19+1, v11 =>
    if (decide (v11 < (5:Int))) = true then
      if 0 ≤ v11 ∧ v11 < 5 then
      if 0 ≤ v11 ∧ v11 < 5 then
      if 0 ≤ v11 ∧ v11 < 5 then
      if ((IntKind.wrap .u32 ((Arr5.get a0.From v11).Hi - (Arr5.get a0.From v11).Lo)) != (IntKind.wrap .u32 ((Arr5.get a0.To v11).Hi - (Arr5.get a0.To v11).Lo))) = true then
        some (.inr false)
      else
        F_rewrite_validMove_L1 a0 n19 (IntKind.wrap .i64 (v11 + (1:Int)))
      else none
      else none
      else none
    else
      some (.inl ())
def F_rewrite_validMove (a0 : api_Move) : Option Bool :=
  (F_box_Valid a0.From).bind fun (r1 : Bool) =>
  (some (!r1)).bind fun (b3 : Bool) =>
  (if b3 = true then some true else
    (F_box_Valid a0.To).bind fun (r5 : Bool) =>
    some (!r5)
   ).bind fun (v7 : Bool) =>
  if v7 = true then
    some false
  else
    (F_rewrite_validMove_L1 a0 fuel (0:Int)).bind fun (o17 : (Unit ⊕ Bool)) =>
    match o17 with
    | .inl () =>
        some true
    | .inr r25 =>
        some r25
def F_box_values (a0 : api_Header) : Option (Arr5 Int) :=
  some (Arr5.mk a0.Src a0.Dst (IntKind.wrap .u32 a0.Proto) (IntKind.wrap .u32 a0.SrcPort) (IntKind.wrap .u32 a0.DstPort))
def F_box_Contains_L1 (a0 : (Arr5 api_Range)) (r3 : (Arr5 Int)) : Nat → Int → Option (Unit ⊕ Bool)
  | 0, _ => none
  | n19+1, v5 =>
    if (decide (v5 < (5:Int))) = true then
      if 0 ≤ v5 ∧ v5 < 5 then
      if 0 ≤ v5 ∧ v5 < 5 then
      (some (decide ((Arr5.get r3 v5) < (Arr5.get a0 v5).Lo))).bind fun (b22 : Bool) =>
      (if b22 = true then some true else
        if 0 ≤ v5 ∧ v5 < 5 then
        some (decide ((Arr5.get r3 v5) > (Arr5.get a0 v5).Hi))
        else none
       ).bind fun (v25 : Bool) =>
      if v25 = true then
        some (.inr false)
      else
        F_box_Contains_L1 a0 r3 n19 (IntKind.wrap .i64 (v5 + (1:Int)))
      else none
      else none
    else
      some (.inl ())
def F_box_Contains (a0 : (Arr5 api_Range)) (a1 : api_Header) : Option Bool :=
  (F_box_Valid a0).bind fun (r1 : Bool) =>
  if (!r1) = true then
    some false
  else
    (F_box_values a1).bind fun (r3 : (Arr5 Int)) =>
    (F_box_Contains_L1 a0 r3 fuel (0:Int)).bind fun (o17 : (Unit ⊕ Bool)) =>
    match o17 with
    | .inl () =>
        some true
    | .inr r31 =>
        some r31
def F_rewrite_Match_1 (a0 : api_Move) (a1 : api_Header) : Option Bool :=
  (F_rewrite_validMove a0).bind fun (r1 : Bool) =>
  (some r1).bind fun (b3 : Bool) =>
  (if b3 = true then
    (F_box_Contains a0.From a1).bind fun (r5 : Bool) =>
    some r5
   else some false).bind fun (v7 : Bool) =>
  some v7
def F_slices_IndexFunc_api_Move_api_Move_of_Match_1_L1 (a0 : (List api_Move)) (a1 : api_Header) : Nat → Int → Option (Unit ⊕ Int)
  | 0, _ => none
  | n10+1, v1 =>
    if (decide (v1 < (List.length a0 : Int))) = true then
      (idx a0 v1).bind fun (x11 : api_Move) =>
      (F_rewrite_Match_1 x11 a1).bind fun (r13 : Bool) =>
      if r13 = true then
        some (.inr v1)
      else
        F_slices_IndexFunc_api_Move_api_Move_of_Match_1_L1 a0 a1 n10 (IntKind.wrap .i64 (v1 + (1:Int)))
    else
      some (.inl ())
def F_slices_IndexFunc_api_Move_api_Move_of_Match_1 (a0 : (List api_Move)) (a1 : api_Header) : Option Int :=
  (F_slices_IndexFunc_api_Move_api_Move_of_Match_1_L1 a0 a1 fuel (0:Int)).bind fun (o8 : (Unit ⊕ Int)) =>
  match o8 with
  | .inl () =>
      some (-1:Int)
  | .inr r17 =>
      some r17
def F_rewrite_Match (a0 : (List api_Move)) (a1 : api_Header) : Option Int :=
  (F_slices_IndexFunc_api_Move_api_Move_of_Match_1 a0 a1).bind fun (r1 : Int) =>
  some r1
def F_box_Value (a0 : api_Header) (a1 : Int) : Option Int :=
  (some (decide (a1 < (0:Int)))).bind fun (b1 : Bool) =>
  if (b1 || (decide (a1 ≥ (5:Int)))) = true then
    some (0:Int)
  else
    (F_box_values a0).bind fun (r3 : (Arr5 Int)) =>
    if 0 ≤ a1 ∧ a1 < 5 then
    some (Arr5.get r3 a1)
    else none
def F_box_header (a0 : (Arr5 Int)) : Option api_Header :=
  some (api_Header.mk a0.x0 a0.x1 (IntKind.wrap .u8 a0.x2) (IntKind.wrap .u16 a0.x3) (IntKind.wrap .u16 a0.x4))
def F_box_With (a0 : api_Header) (a1 : Int) (a2 : Int) : Option api_Header :=
  (some (decide (a1 < (0:Int)))).bind fun (b1 : Bool) =>
  (some (b1 || (decide (a1 ≥ (5:Int))))).bind fun (b3 : Bool) =>
  (if b3 = true then some true else
    if 0 ≤ a1 ∧ a1 < 5 then
    some (decide (a2 > (Arr5.get glob_box_tops a1)))
    else none
   ).bind fun (v6 : Bool) =>
  if v6 = true then
    some a0
  else
    (F_box_values a0).bind fun (r11 : (Arr5 Int)) =>
    if 0 ≤ a1 ∧ a1 < 5 then
    (F_box_header (Arr5.set r11 a1 a2)).bind fun (r16 : api_Header) =>
    some r16
    else none
def F_rewrite_Apply_L1 (a0 : (List api_Move)) (a1 : api_Header) (r1 : Int) (x3 : api_Move) : Nat → api_Header → Int → Option api_Header
  | 0, _, _ => none
  | n28+1, v15, v16 =>
    if (decide (v16 < (5:Int))) = true then
      if 0 ≤ v16 ∧ v16 < 5 then
      (idx a0 r1).bind fun (x30 : api_Move) =>
      if 0 ≤ v16 ∧ v16 < 5 then
      (F_box_Value a1 v16).bind fun (r33 : Int) =>
      (F_box_With v15 v16 (IntKind.wrap .u32 ((Arr5.get x30.To v16).Lo + (IntKind.wrap .u32 (r33 - (Arr5.get x3.From v16).Lo))))).bind fun (r35 : api_Header) =>
      F_rewrite_Apply_L1 a0 a1 r1 x3 n28 r35 (IntKind.wrap .i64 (v16 + (1:Int)))
      else none
      else none
    else
      some v15
def F_rewrite_Apply (a0 : (List api_Move)) (a1 : api_Header) : Option api_Header :=
  (F_rewrite_Match a0 a1).bind fun (r1 : Int) =>
  if (decide (r1 < (0:Int))) = true then
    some a1
  else
    (idx a0 r1).bind fun (x3 : api_Move) =>
    (F_rewrite_Apply_L1 a0 a1 r1 x3 fuel a1 (0:Int)).bind fun (v26 : api_Header) =>
      some v26
def F_nsglaw6_RewriteInverse_L1 (a1 : api_Header) (r3 : ((List api_Move) × nsggen_Tape)) (r21 : (api_Header × nsggen_Tape)) (r25 : (api_Header × nsggen_Tape)) (r27 : (List api_Move)) : Nat → Int → Option (Unit ⊕ Bool)
  | 0, _ => none
  | n52+1, v29 =>
    if (decide (v29 < (List.length [a1, r21.1, r25.1] : Int))) = true then
      (idx [a1, r21.1, r25.1] v29).bind fun (x53 : api_Header) =>
      (F_rewrite_Match r3.1 x53).bind fun (r55 : Int) =>
      (some (decide (r55 ≥ (0:Int)))).bind fun (b57 : Bool) =>
      (if b57 = true then
        (idx [a1, r21.1, r25.1] v29).bind fun (x59 : api_Header) =>
        (F_rewrite_Apply r3.1 x59).bind fun (r61 : api_Header) =>
        (F_rewrite_Apply r27 r61).bind fun (r63 : api_Header) =>
        (idx [a1, r21.1, r25.1] v29).bind fun (x65 : api_Header) =>
        some (!(eq_api_Header r63 x65))
       else some false).bind fun (v67 : Bool) =>
      if v67 = true then
        some (.inr false)
      else
        F_nsglaw6_RewriteInverse_L1 a1 r3 r21 r25 r27 n52 (IntKind.wrap .i64 (v29 + (1:Int)))
    else
      some (.inl ())
def F_nsglaw6_RewriteInverse (a0 : (List Int)) (a1 : api_Header) : Option Bool :=
  (F_nsggen_New a0).bind fun (r1 : nsggen_Tape) =>
  (F_nsggen_Tape_Moves r1 (3:Int) false).bind fun (r3 : ((List api_Move) × nsggen_Tape)) =>
  (F_nsgref6_Valid r3.1).bind fun (r5 : Bool) =>
  (some (!r5)).bind fun (b7 : Bool) =>
  (if b7 = true then some true else
    (F_nsgref6_Inverse r3.1).bind fun (r9 : (List api_Move)) =>
    (F_nsgref6_Valid r9).bind fun (r11 : Bool) =>
    some (!r11)
   ).bind fun (v13 : Bool) =>
  if v13 = true then
    (F_nsglaw6_sane).bind fun (r17 : Bool) =>
    some r17
  else
    (F_nsglaw6_ends r3.1).bind fun (r19 : (List (Arr5 api_Range))) =>
    (F_nsggen_Tape_Near r3.2 r19).bind fun (r21 : (api_Header × nsggen_Tape)) =>
    (F_nsglaw6_ends r3.1).bind fun (r23 : (List (Arr5 api_Range))) =>
    (F_nsggen_Tape_Near r21.2 r23).bind fun (r25 : (api_Header × nsggen_Tape)) =>
    (F_rewrite_Inverse r3.1).bind fun (r27 : (List api_Move)) =>
    (F_nsglaw6_RewriteInverse_L1 a1 r3 r21 r25 r27 fuel (0:Int)).bind fun (o50 : (Unit ⊕ Bool)) =>
    match o50 with
    | .inl () =>
        (F_nsglaw6_sane).bind fun (r73 : Bool) =>
        some r73
    | .inr r75 =>
        some r75
def F_nsggen_Tape_addresses (a0 : nsggen_Tape) : Option (api_Range × nsggen_Tape) :=
  (F_nsggen_Tape_Next a0 (4:Int)).bind fun (r1 : (Int × nsggen_Tape)) =>
  if (r1.1 == (0:Int)) = true then
    (F_nsggen_Tape_Next r1.2 (6:Int)).bind fun (r3 : (Int × nsggen_Tape)) =>
    (F_nsggen_Subnet r3.1).bind fun (r5 : api_Prefix) =>
    (F_nsgref1_Of r5).bind fun (r7 : (api_Range × Bool)) =>
    some (r7.1, r3.2)
  else
    if (r1.1 == (1:Int)) = true then
      (F_nsggen_Tape_Addr r1.2).bind fun (r9 : (Int × nsggen_Tape)) =>
      (F_nsggen_Tape_Addr r9.2).bind fun (r11 : (Int × nsggen_Tape)) =>
      some ((api_Range.mk (iMin r9.1 r11.1) (iMax r9.1 r11.1)), r11.2)
    else
      if (r1.1 == (2:Int)) = true then
        (F_nsggen_Tape_Addr r1.2).bind fun (r13 : (Int × nsggen_Tape)) =>
        some ((api_Range.mk r13.1 r13.1), r13.2)
      else
        some ((api_Range.mk (0:Int) (4294967295:Int)), r1.2)
def F_nsggen_Tape_Range (a0 : nsggen_Tape) (a1 : Int) : Option (api_Range × nsggen_Tape) :=
  (F_nsggen_Tape_Number a0 a1).bind fun (r1 : (Int × nsggen_Tape)) =>
  (F_nsggen_Tape_Number r1.2 a1).bind fun (r3 : (Int × nsggen_Tape)) =>
  some ((api_Range.mk (iMin r1.1 r3.1) (iMax r1.1 r3.1)), r3.2)
def F_nsggen_Tape_Box_L1 : Nat → nsggen_Tape → (Arr5 api_Range) → Int → Option (nsggen_Tape × (Arr5 api_Range))
  | 0, _, _, _ => none
  | n95+1, v47, v48, v49 =>
    if (decide (v49 > (0:Int))) = true then
      ((F_nsggen_Tape_Next v47 (5:Int)).bind fun (r118 : (Int × nsggen_Tape)) =>
      if (r118.1 == (0:Int)) = true then
        (F_nsggen_Tape_addresses r118.2).bind fun (r120 : (api_Range × nsggen_Tape)) =>
        some (r120.2, ({ v48 with x0 := r120.1 } : (Arr5 api_Range)))
      else
        if (r118.1 == (1:Int)) = true then
          (F_nsggen_Tape_addresses r118.2).bind fun (r122 : (api_Range × nsggen_Tape)) =>
          some (r122.2, ({ v48 with x1 := r122.1 } : (Arr5 api_Range)))
        else
          if (r118.1 == (2:Int)) = true then
            (F_nsggen_Tape_Next r118.2 (6:Int)).bind fun (r124 : (Int × nsggen_Tape)) =>
            (idx [(6:Int), (17:Int), (1:Int), (0:Int), (7:Int), (255:Int)] r124.1).bind fun (x126 : Int) =>
            some (r124.2, ({ v48 with x2 := (api_Range.mk x126 x126) } : (Arr5 api_Range)))
          else
            if (r118.1 == (3:Int)) = true then
              (F_nsggen_Tape_Range r118.2 (65535:Int)).bind fun (r128 : (api_Range × nsggen_Tape)) =>
              some (r128.2, ({ v48 with x3 := r128.1 } : (Arr5 api_Range)))
            else
              (F_nsggen_Tape_Range r118.2 (65535:Int)).bind fun (r130 : (api_Range × nsggen_Tape)) =>
              some (r130.2, ({ v48 with x4 := r130.1 } : (Arr5 api_Range)))).bind fun (o116 : (nsggen_Tape × (Arr5 api_Range))) =>
      match o116 with
      | (v114, v115) =>
        F_nsggen_Tape_Box_L1 n95 v114 v115 (IntKind.wrap .i64 (v49 - (1:Int)))
    else
      some (v47, v48)
def F_nsggen_Tape_Box (a0 : nsggen_Tape) : Option ((Arr5 api_Range) × nsggen_Tape) :=
  (F_nsgref3_Full).bind fun (r1 : (Arr5 api_Range)) =>
  (F_nsggen_Tape_Next a0 (3:Int)).bind fun (r3 : (Int × nsggen_Tape)) =>
  (F_nsggen_Tape_Box_L1 fuel r3.2 r1 (IntKind.wrap .i64 ((1:Int) + r3.1))).bind fun (o93 : (nsggen_Tape × (Arr5 api_Range))) =>
  match o93 with
  | (v91, v92) =>
    some (v92, v91)
def F_nsggen_Tape_Boxes_L1 (a2 : Bool) : Nat → nsggen_Tape → (List (Arr5 api_Range)) → Int → Option (nsggen_Tape × (List (Arr5 api_Range)))
  | 0, _, _, _ => none
  | n137+1, v67, v68, v69 =>
    if (decide (v69 > (0:Int))) = true then
      ((F_nsggen_Tape_Box v67).bind fun (r171 : ((Arr5 api_Range) × nsggen_Tape)) =>
      ((some a2).bind fun (b188 : Bool) =>
      (if b188 = true then
        (F_nsggen_Tape_Next r171.2 (8:Int)).bind fun (r190 : (Int × nsggen_Tape)) =>
        some ((r190.1 == (7:Int)), r190.2)
       else some (false, r171.2)).bind fun (v192 : Bool × nsggen_Tape) =>
      if v192.1 = true then
        (F_nsggen_Tape_SpoilBox v192.2 r171.1).bind fun (r196 : ((Arr5 api_Range) × nsggen_Tape)) =>
        some (r196.2, r196.1)
      else
        some (v192.2, r171.1)).bind fun (o186 : (nsggen_Tape × (Arr5 api_Range))) =>
      match o186 with
      | (v184, v185) =>
        if List.length v68 + List.length [v185] ≤ lim then
        some (v184, (v68 ++ [v185]))
        else none).bind fun (o169 : (nsggen_Tape × (List (Arr5 api_Range)))) =>
      match o169 with
      | (v167, v168) =>
        F_nsggen_Tape_Boxes_L1 a2 n137 v167 v168 (IntKind.wrap .i64 (v69 - (1:Int)))
    else
      some (v67, v68)
def F_nsggen_Tape_Boxes (a0 : nsggen_Tape) (a1 : Int) (a2 : Bool) : Option ((List (Arr5 api_Range)) × nsggen_Tape) :=
  (F_nsggen_Tape_Next a0 (IntKind.wrap .i64 (a1 + (1:Int)))).bind fun (r1 : (Int × nsggen_Tape)) =>
  (F_nsggen_Tape_Boxes_L1 a2 fuel r1.2 ([] : (List (Arr5 api_Range))) r1.1).bind fun (o135 : (nsggen_Tape × (List (Arr5 api_Range)))) =>
  match o135 with
  | (v133, v134) =>
    some (v134, v133)
def F_rewrite_from_L1 (a0 : (List api_Move)) : Nat → (List (Arr5 api_Range)) → Int → Option (List (Arr5 api_Range))
  | 0, _, _ => none
  | n56+1, v27, v28 =>
    if (decide (v28 < (List.length a0 : Int))) = true then
      ((idx a0 v28).bind fun (x70 : api_Move) =>
      ((F_rewrite_validMove x70).bind fun (r77 : Bool) =>
      if (!r77) = true then
        some ({ x70 with From := (Arr5.mk (api_Range.mk (1:Int) (0:Int)) z_api_Range z_api_Range z_api_Range z_api_Range) } : api_Move)
      else
        some x70).bind fun (v75 : api_Move) =>
        if List.length v27 + List.length [v75.From] ≤ lim then
        some (v27 ++ [v75.From])
        else none).bind fun (v68 : (List (Arr5 api_Range))) =>
        F_rewrite_from_L1 a0 n56 v68 (IntKind.wrap .i64 (v28 + (1:Int)))
    else
      some v27
def F_rewrite_from (a0 : (List api_Move)) : Option (List (Arr5 api_Range)) :=
  (F_rewrite_from_L1 a0 fuel ([] : (List (Arr5 api_Range))) (0:Int)).bind fun (v54 : (List (Arr5 api_Range))) =>
    some v54
def F_packetset_valid_1 (a0 : (Arr5 api_Range)) : Option Bool :=
  (F_box_Valid a0).bind fun (r1 : Bool) =>
  some (!r1)
def F_slices_IndexFunc_api_Box_api_Box_of_valid_1_L1 (a0 : Nat) (a1 : (List (Arr5 api_Range))) : Nat → Int → Option (Unit ⊕ Int)
  | 0, _ => none
  | n10+1, v1 =>
    if (decide (v1 < (a0 : Int))) = true then
      (idxn a0 a1 v1).bind fun (x11 : (Arr5 api_Range)) =>
      (F_packetset_valid_1 x11).bind fun (r13 : Bool) =>
      if r13 = true then
        some (.inr v1)
      else
        F_slices_IndexFunc_api_Box_api_Box_of_valid_1_L1 a0 a1 n10 (IntKind.wrap .i64 (v1 + (1:Int)))
    else
      some (.inl ())
def F_slices_IndexFunc_api_Box_api_Box_of_valid_1 (a0 : Nat) (a1 : (List (Arr5 api_Range))) : Option Int :=
  (F_slices_IndexFunc_api_Box_api_Box_of_valid_1_L1 a0 a1 fuel (0:Int)).bind fun (o8 : (Unit ⊕ Int)) =>
  match o8 with
  | .inl () =>
      some (-1:Int)
  | .inr r17 =>
      some r17
def F_slices_DeleteFunc_api_Box_api_Box_of_valid_1_L1 (a0 : Nat) : Nat → (List (Arr5 api_Range)) → Int → Int → Option ((List (Arr5 api_Range)) × Int)
  | 0, _, _, _ => none
  | n50+1, v24, v25, v26 =>
    if (decide (v26 < (a0 : Int))) = true then
      ((idxn a0 v24 v26).bind fun (x62 : (Arr5 api_Range)) =>
      (F_packetset_valid_1 x62).bind fun (r64 : Bool) =>
      if (!r64) = true then
        (idxn a0 v24 v25).bind fun (_ : (Arr5 api_Range)) =>
        some ((List.set v24 (Int.toNat v25) x62), (IntKind.wrap .i64 (v25 + (1:Int))))
      else
        some (v24, v25)).bind fun (o60 : ((List (Arr5 api_Range)) × Int)) =>
      match o60 with
      | (v58, v59) =>
        F_slices_DeleteFunc_api_Box_api_Box_of_valid_1_L1 a0 n50 v58 v59 (IntKind.wrap .i64 (v26 + (1:Int)))
    else
      some (v24, v25)
def F_slices_DeleteFunc_api_Box_api_Box_of_valid_1 (a0 : Nat) (a1 : (List (Arr5 api_Range))) : Option (Nat × (List (Arr5 api_Range))) :=
  (F_slices_IndexFunc_api_Box_api_Box_of_valid_1 a0 a1).bind fun (r1 : Int) =>
  if (r1 == (-1:Int)) = true then
    some (a0, a1)
  else
    (F_slices_DeleteFunc_api_Box_api_Box_of_valid_1_L1 a0 fuel a1 r1 (IntKind.wrap .i64 (r1 + (1:Int)))).bind fun (o48 : ((List (Arr5 api_Range)) × Int)) =>
    match o48 with
    | (v46, v47) =>
      if 0 ≤ v47 ∧ v47 ≤ (a0 : Int) ∧ (a0 : Int) ≤ (a0 : Int) then
      if Int.toNat v47 + (Int.toNat (a0 : Int) - Int.toNat v47) ≤ List.length v46 then
      if 0 ≤ (0:Int) ∧ (0:Int) ≤ v47 ∧ v47 ≤ (a0 : Int) then
      some ((Int.toNat v47), (List.take (Int.toNat v47) v46 ++ List.replicate (Int.toNat (a0 : Int) - Int.toNat v47) z_a5_api_Range ++ List.drop (Int.toNat v47 + (Int.toNat (a0 : Int) - Int.toNat v47)) v46))
      else none
      else none
      else none
def F_packetset_valid (a0 : (List (Arr5 api_Range))) : Option (List (Arr5 api_Range)) :=
  if List.length a0 ≤ lim then
  if a0 ≠ [] then
  (F_slices_DeleteFunc_api_Box_api_Box_of_valid_1 (List.length a0) a0).bind fun (r2 : (Nat × (List (Arr5 api_Range)))) =>
  if List.length r2.2 = List.length a0 then
  if r2.1 ≤ List.length r2.2 then
  some (List.take r2.1 r2.2)
  else none
  else none
  else none
  else none
def F_packetset_rests_L2 (a0 : Int) (v29 : Int) : Nat → (List (Arr5 api_Range)) → Int → Option (List (Arr5 api_Range))
  | 0, _, _ => none
  | n75+1, v65, v66 =>
    if (decide (v66 ≤ a0)) = true then
      (idx v65 v29).bind fun (x76 : (Arr5 api_Range)) =>
      if 0 ≤ v66 ∧ v66 < 5 then
      F_packetset_rests_L2 a0 v29 n75 (List.set v65 (Int.toNat v29) (Arr5.set x76 v66 (api_Range.mk (0:Int) (0:Int)))) (IntKind.wrap .i64 (v66 + (1:Int)))
      else none
    else
      some v65
def F_packetset_rests_L1 (a0 : Int) (a1 : (List (Arr5 api_Range))) : Nat → (List (Arr5 api_Range)) → Int → Option (List (Arr5 api_Range))
  | 0, _, _ => none
  | n57+1, v28, v29 =>
    if (decide (v29 < (List.length a1 : Int))) = true then
      (F_packetset_rests_L2 a0 v29 fuel v28 (0:Int)).bind fun (v73 : (List (Arr5 api_Range))) =>
        F_packetset_rests_L1 a0 a1 n57 v73 (IntKind.wrap .i64 (v29 + (1:Int)))
    else
      some v28
def F_packetset_rests (a0 : Int) (a1 : (List (Arr5 api_Range))) : Option (List (Arr5 api_Range)) :=
  if List.length a1 ≤ lim then
  (F_packetset_rests_L1 a0 a1 fuel a1 (0:Int)).bind fun (v55 : (List (Arr5 api_Range))) =>
    some v55
  else none
def F_slices_Equal_api_Box_api_Box_L1 (a0 : (List (Arr5 api_Range))) (a1 : (List (Arr5 api_Range))) : Nat → Int → Option (Unit ⊕ Bool)
  | 0, _ => none
  | n10+1, v1 =>
    if (decide (v1 < (List.length a0 : Int))) = true then
      (idx a0 v1).bind fun (x11 : (Arr5 api_Range)) =>
      (idx a1 v1).bind fun (x13 : (Arr5 api_Range)) =>
      if (!(eq_a5_api_Range x11 x13)) = true then
        some (.inr false)
      else
        F_slices_Equal_api_Box_api_Box_L1 a0 a1 n10 (IntKind.wrap .i64 (v1 + (1:Int)))
    else
      some (.inl ())
def F_slices_Equal_api_Box_api_Box (a0 : (List (Arr5 api_Range))) (a1 : (List (Arr5 api_Range))) : Option Bool :=
  if ((List.length a0 : Int) != (List.length a1 : Int)) = true then
    some false
  else
    (F_slices_Equal_api_Box_api_Box_L1 a0 a1 fuel (0:Int)).bind fun (o8 : (Unit ⊕ Bool)) =>
    match o8 with
    | .inl () =>
        some true
    | .inr r17 =>
        some r17
def F_packetset_divided_L2 (a0 : Int) (v80 : (List (Arr5 api_Range))) : Nat → Int → Option Int
  | 0, _ => none
  | n178+1, v162 =>
    (some (decide (v162 < (List.length v80 : Int)))).bind fun (b179 : Bool) =>
    (if b179 = true then
      (idx v80 v162).bind fun (x181 : (Arr5 api_Range)) =>
      if 0 ≤ a0 ∧ a0 < 5 then
      (idx v80 (0:Int)).bind fun (x184 : (Arr5 api_Range)) =>
      if 0 ≤ a0 ∧ a0 < 5 then
      some (eq_api_Range (Arr5.get x181 a0) (Arr5.get x184 a0))
      else none
      else none
     else some false).bind fun (v187 : Bool) =>
    if v187 = true then
      F_packetset_divided_L2 a0 v80 n178 (IntKind.wrap .i64 (v162 + (1:Int)))
    else
      some v162
def F_packetset_divided_L1 (a0 : Int) (z0 : Int → (List (Arr5 api_Range)) → Option Bool) : Nat → packetset_group → (List (Arr5 api_Range)) → Option (packetset_group ⊕ Bool)
  | 0, _, _ => none
  | n161+1, v79, v80 =>
    if (decide ((List.length v80 : Int) > (0:Int))) = true then
      (F_packetset_divided_L2 a0 v80 fuel (1:Int)).bind fun (v176 : Int) =>
        (idx v80 (0:Int)).bind fun (x192 : (Arr5 api_Range)) =>
        if 0 ≤ a0 ∧ a0 < 5 then
        if 0 ≤ (0:Int) ∧ (0:Int) ≤ v176 ∧ v176 ≤ (List.length v80 : Int) then
        (F_packetset_rests a0 (List.drop (Int.toNat (0:Int)) (List.take (Int.toNat v176) v80))).bind fun (r196 : (List (Arr5 api_Range))) =>
        if 0 ≤ (0:Int) ∧ (0:Int) ≤ v176 ∧ v176 ≤ (List.length v80 : Int) then
        (z0 (IntKind.wrap .i64 (a0 + (1:Int))) (List.drop (Int.toNat (0:Int)) (List.take (Int.toNat v176) v80))).bind fun (r199 : Bool) =>
        if (!r199) = true then
          some (.inr false)
        else
          (if (decide ((List.length v79.f_rest : Int) > (0:Int))) = true then
            (some (decide ((Arr5.get x192 a0).Lo ≤ v79.f_values.Hi))).bind fun (b219 : Bool) =>
            (if b219 = true then some true else
              (some ((Arr5.get x192 a0).Lo == (IntKind.wrap .u32 (v79.f_values.Hi + (1:Int))))).bind fun (b221 : Bool) =>
              (if b221 = true then
                (F_slices_Equal_api_Box_api_Box r196 v79.f_rest).bind fun (r223 : Bool) =>
                some r223
               else some false).bind fun (v225 : Bool) =>
              some v225
             ).bind fun (v227 : Bool) =>
            if v227 = true then
              some (.inr false)
            else
              some (.inl ())
          else
            some (.inl ())).bind fun (o217 : (Unit ⊕ Bool)) =>
          match o217 with
          | .inl () =>
              if 0 ≤ v176 ∧ v176 ≤ (List.length v80 : Int) ∧ (List.length v80 : Int) ≤ (List.length v80 : Int) then
              F_packetset_divided_L1 a0 z0 n161 (packetset_group.mk (Arr5.get x192 a0) r196) (List.drop (Int.toNat v176) (List.take (Int.toNat (List.length v80 : Int)) v80))
              else none
          | .inr r236 =>
              some (.inr r236)
        else none
        else none
        else none
    else
      some (.inl v79)
def F_packetset_divided : Nat → Int → (List (Arr5 api_Range)) → Option Bool
  | 0, _, _ => none
  | nr+1, a0, a1 =>
    if (a0 == (5:Int)) = true then
      some (decide ((List.length a1 : Int) ≤ (1:Int)))
    else
      (F_packetset_divided_L1 a0 (F_packetset_divided nr) fuel z_packetset_group a1).bind fun (o159 : (packetset_group ⊕ Bool)) =>
      match o159 with
      | .inl _ =>
          some true
      | .inr r239 =>
          some r239
def F_packetset_Valid (a0 : (List (Arr5 api_Range))) : Option Bool :=
  (some (decide ((List.length a0 : Int) ≤ (4096:Int)))).bind fun (b1 : Bool) =>
  (if b1 = true then
    (F_packetset_valid a0).bind fun (r3 : (List (Arr5 api_Range))) =>
    some ((List.length r3 : Int) == (List.length a0 : Int))
   else some false).bind fun (v5 : Bool) =>
  (some v5).bind fun (b7 : Bool) =>
  (if b7 = true then
    (F_packetset_divided fuel (0:Int) a0).bind fun (r9 : Bool) =>
    some r9
   else some false).bind fun (v11 : Bool) =>
  some v11
def F_packetset_either (a0 : Bool) (a1 : Bool) : Option Bool :=
  (some a0).bind fun (b1 : Bool) =>
  some (b1 || a1)
def F_box_Top (a0 : Int) : Option Int :=
  (some (decide (a0 < (0:Int)))).bind fun (b1 : Bool) =>
  if (b1 || (decide (a0 ≥ (5:Int)))) = true then
    some (0:Int)
  else
    if 0 ≤ a0 ∧ a0 < 5 then
    some (Arr5.get glob_box_tops a0)
    else none
def F_math_bits_Len64 (a0 : Int) : Option Int :=
  (if (decide (a0 ≥ (4294967296:Int))) = true then
    some ((bShr .u64 a0 (32:Int)), (32:Int))
  else
    some (a0, (0:Int))).bind fun (o4 : (Int × Int)) =>
  match o4 with
  | (v2, v3) =>
    (if (decide (v2 ≥ (65536:Int))) = true then
      some ((bShr .u64 v2 (16:Int)), (IntKind.wrap .i64 (v3 + (16:Int))))
    else
      some (v2, v3)).bind fun (o10 : (Int × Int)) =>
    match o10 with
    | (v8, v9) =>
      (if (decide (v8 ≥ (256:Int))) = true then
        some ((bShr .u64 v8 (8:Int)), (IntKind.wrap .i64 (v9 + (8:Int))))
      else
        some (v8, v9)).bind fun (o16 : (Int × Int)) =>
      match o16 with
      | (v14, v15) =>
        (sidx ⟨#[0,1,2,2,3,3,3,3,4,4,4,4,4,4,4,4,5,5,5,5,5,5,5,5,5,5,5,5,5,5,5,5,6,6,6,6,6,6,6,6,6,6,6,6,6,6,6,6,6,6,6,6,6,6,6,6,6,6,6,6,6,6,6,6,7,7,7,7,7,7,7,7,7,7,7,7,7,7,7,7,7,7,7,7,7,7,7,7,7,7,7,7,7,7,7,7,7,7,7,7,7,7,7,7,7,7,7,7,7,7,7,7,7,7,7,7,7,7,7,7,7,7,7,7,7,7,7,7,8,8,8,8,8,8,8,8,8,8,8,8,8,8,8,8,8,8,8,8,8,8,8,8,8,8,8,8,8,8,8,8,8,8,8,8,8,8,8,8,8,8,8,8,8,8,8,8,8,8,8,8,8,8,8,8,8,8,8,8,8,8,8,8,8,8,8,8,8,8,8,8,8,8,8,8,8,8,8,8,8,8,8,8,8,8,8,8,8,8,8,8,8,8,8,8,8,8,8,8,8,8,8,8,8,8,8,8,8,8,8,8,8,8,8,8,8,8,8,8,8,8,8,8,8,8,8,8]⟩ (IntKind.wrap .u8 v14)).bind fun (x19 : Int) =>
        some (IntKind.wrap .i64 (v15 + (IntKind.wrap .i64 x19)))
def F_math_bits_Len (a0 : Int) : Option Int :=
  (F_math_bits_Len64 a0).bind fun (r1 : Int) =>
  some r1
def F_cmp_isNaN_uint64 (a0 : Int) : Option Bool :=
  some (a0 != a0)
def F_cmp_Less_uint64 (a0 : Int) (a1 : Int) : Option Bool :=
  (F_cmp_isNaN_uint64 a0).bind fun (r1 : Bool) =>
  (some r1).bind fun (b3 : Bool) =>
  (if b3 = true then
    (F_cmp_isNaN_uint64 a1).bind fun (r5 : Bool) =>
    some (!r5)
   else some false).bind fun (v7 : Bool) =>
  (some v7).bind fun (b9 : Bool) =>
  some (b9 || (decide (a0 < a1)))
def F_slices_insertionSortOrdered_uint64_L2 (a0 : Nat) (a2 : Int) : Nat → (List Int) → Int → Option (List Int)
  | 0, _, _ => none
  | n194+1, v169, v170 =>
    (some (decide (v170 > a2))).bind fun (b195 : Bool) =>
    (if b195 = true then
      (idxn a0 v169 v170).bind fun (x197 : Int) =>
      (idxn a0 v169 (IntKind.wrap .i64 (v170 - (1:Int)))).bind fun (x199 : Int) =>
      (F_cmp_Less_uint64 x197 x199).bind fun (r201 : Bool) =>
      some r201
     else some false).bind fun (v203 : Bool) =>
    if v203 = true then
      (idxn a0 v169 (IntKind.wrap .i64 (v170 - (1:Int)))).bind fun (x207 : Int) =>
      (idxn a0 v169 v170).bind fun (x209 : Int) =>
      (idxn a0 v169 v170).bind fun (_ : Int) =>
      (idxn a0 (List.set v169 (Int.toNat v170) x207) (IntKind.wrap .i64 (v170 - (1:Int)))).bind fun (_ : Int) =>
      F_slices_insertionSortOrdered_uint64_L2 a0 a2 n194 (List.set (List.set v169 (Int.toNat v170) x207) (Int.toNat (IntKind.wrap .i64 (v170 - (1:Int)))) x209) (IntKind.wrap .i64 (v170 - (1:Int)))
    else
      some v169
def F_slices_insertionSortOrdered_uint64_L1 (a0 : Nat) (a2 : Int) (a3 : Int) : Nat → (List Int) → Int → Option (List Int)
  | 0, _, _ => none
  | n146+1, v72, v73 =>
    if (decide (v73 < a3)) = true then
      (F_slices_insertionSortOrdered_uint64_L2 a0 a2 fuel v72 v73).bind fun (v192 : (List Int)) =>
        F_slices_insertionSortOrdered_uint64_L1 a0 a2 a3 n146 v192 (IntKind.wrap .i64 (v73 + (1:Int)))
    else
      some v72
def F_slices_insertionSortOrdered_uint64 (a0 : Nat) (a1 : (List Int)) (a2 : Int) (a3 : Int) : Option (List Int) :=
  (F_slices_insertionSortOrdered_uint64_L1 a0 a2 a3 fuel a1 (IntKind.wrap .i64 (a2 + (1:Int)))).bind fun (v144 : (List Int)) =>
    some v144
def F_slices_siftDownOrdered_uint64_L1 (a0 : Nat) (a3 : Int) (a4 : Int) : Nat → (List Int) → Int → Option ((List Int) ⊕ (List Int))
  | 0, _, _ => none
  | n95+1, v46, v47 =>
    if (decide ((IntKind.wrap .i64 ((IntKind.wrap .i64 ((2:Int) * v47)) + (1:Int))) ≥ a3)) = true then
      some (.inl v46)
    else
      ((some (decide ((IntKind.wrap .i64 ((IntKind.wrap .i64 ((IntKind.wrap .i64 ((2:Int) * v47)) + (1:Int))) + (1:Int))) < a3))).bind fun (b111 : Bool) =>
      (if b111 = true then
        (idxn a0 v46 (IntKind.wrap .i64 (a4 + (IntKind.wrap .i64 ((IntKind.wrap .i64 ((2:Int) * v47)) + (1:Int)))))).bind fun (x113 : Int) =>
        (idxn a0 v46 (IntKind.wrap .i64 ((IntKind.wrap .i64 (a4 + (IntKind.wrap .i64 ((IntKind.wrap .i64 ((2:Int) * v47)) + (1:Int))))) + (1:Int)))).bind fun (x115 : Int) =>
        (F_cmp_Less_uint64 x113 x115).bind fun (r117 : Bool) =>
        some r117
       else some false).bind fun (v119 : Bool) =>
      if v119 = true then
        some (IntKind.wrap .i64 ((IntKind.wrap .i64 ((IntKind.wrap .i64 ((2:Int) * v47)) + (1:Int))) + (1:Int)))
      else
        some (IntKind.wrap .i64 ((IntKind.wrap .i64 ((2:Int) * v47)) + (1:Int)))).bind fun (v109 : Int) =>
        (idxn a0 v46 (IntKind.wrap .i64 (a4 + v47))).bind fun (x124 : Int) =>
        (idxn a0 v46 (IntKind.wrap .i64 (a4 + v109))).bind fun (x126 : Int) =>
        (F_cmp_Less_uint64 x124 x126).bind fun (r128 : Bool) =>
        if (!r128) = true then
          some (.inr v46)
        else
          (idxn a0 v46 (IntKind.wrap .i64 (a4 + v109))).bind fun (x130 : Int) =>
          (idxn a0 v46 (IntKind.wrap .i64 (a4 + v47))).bind fun (x132 : Int) =>
          (idxn a0 v46 (IntKind.wrap .i64 (a4 + v47))).bind fun (_ : Int) =>
          (idxn a0 (List.set v46 (Int.toNat (IntKind.wrap .i64 (a4 + v47))) x130) (IntKind.wrap .i64 (a4 + v109))).bind fun (_ : Int) =>
          F_slices_siftDownOrdered_uint64_L1 a0 a3 a4 n95 (List.set (List.set v46 (Int.toNat (IntKind.wrap .i64 (a4 + v47))) x130) (Int.toNat (IntKind.wrap .i64 (a4 + v109))) x132) v109
def F_slices_siftDownOrdered_uint64 (a0 : Nat) (a1 : (List Int)) (a2 : Int) (a3 : Int) (a4 : Int) : Option (List Int) :=
  (F_slices_siftDownOrdered_uint64_L1 a0 a3 a4 fuel a1 a2).bind fun (o93 : ((List Int) ⊕ (List Int))) =>
  match o93 with
  | .inl v92 =>
      some v92
  | .inr r140 =>
      some r140
def F_slices_heapSortOrdered_uint64_L1 (a0 : Nat) (a2 : Int) (a3 : Int) : Nat → (List Int) → Int → Option (List Int)
  | 0, _, _ => none
  | n12+1, v5, v6 =>
    if (decide (v6 ≥ (0:Int))) = true then
      (F_slices_siftDownOrdered_uint64 a0 v5 v6 (IntKind.wrap .i64 (a3 - a2)) a2).bind fun (r13 : (List Int)) =>
      F_slices_heapSortOrdered_uint64_L1 a0 a2 a3 n12 r13 (IntKind.wrap .i64 (v6 - (1:Int)))
    else
      some v5
def F_slices_heapSortOrdered_uint64_L2 (a0 : Nat) (a2 : Int) : Nat → (List Int) → Int → Option (List Int)
  | 0, _, _ => none
  | n43+1, v28, v29 =>
    if (decide (v29 ≥ (0:Int))) = true then
      (idxn a0 v28 (IntKind.wrap .i64 (a2 + v29))).bind fun (x44 : Int) =>
      (idxn a0 v28 a2).bind fun (x46 : Int) =>
      (idxn a0 v28 a2).bind fun (_ : Int) =>
      (idxn a0 (List.set v28 (Int.toNat a2) x44) (IntKind.wrap .i64 (a2 + v29))).bind fun (_ : Int) =>
      (F_slices_siftDownOrdered_uint64 a0 (List.set (List.set v28 (Int.toNat a2) x44) (Int.toNat (IntKind.wrap .i64 (a2 + v29))) x46) (0:Int) v29 a2).bind fun (r52 : (List Int)) =>
      F_slices_heapSortOrdered_uint64_L2 a0 a2 n43 r52 (IntKind.wrap .i64 (v29 - (1:Int)))
    else
      some v28
def F_slices_heapSortOrdered_uint64 (a0 : Nat) (a1 : (List Int)) (a2 : Int) (a3 : Int) : Option (List Int) :=
  (F_slices_heapSortOrdered_uint64_L1 a0 a2 a3 fuel a1 (IntKind.wrap .i64 (Int.tdiv (IntKind.wrap .i64 ((IntKind.wrap .i64 (a3 - a2)) - (1:Int))) (2:Int)))).bind fun (v10 : (List Int)) =>
    (F_slices_heapSortOrdered_uint64_L2 a0 a2 fuel v10 (IntKind.wrap .i64 ((IntKind.wrap .i64 (a3 - a2)) - (1:Int)))).bind fun (v41 : (List Int)) =>
      some v41
def F_slices_nextPowerOfTwo (a0 : Int) : Option Int :=
  (F_math_bits_Len (IntKind.wrap .u64 a0)).bind fun (r1 : Int) =>
  if 0 ≤ r1 then
  some (bShl .u64 (1:Int) r1)
  else none
def F_slices_xorshift_Next (a0 : Int) : Option (Int × Int) :=
  some ((bXor .u64 (bXor .u64 (bXor .u64 a0 (bShl .u64 a0 (13:Int))) (bShr .u64 (bXor .u64 a0 (bShl .u64 a0 (13:Int))) (7:Int))) (bShl .u64 (bXor .u64 (bXor .u64 a0 (bShl .u64 a0 (13:Int))) (bShr .u64 (bXor .u64 a0 (bShl .u64 a0 (13:Int))) (7:Int))) (17:Int))), (bXor .u64 (bXor .u64 (bXor .u64 a0 (bShl .u64 a0 (13:Int))) (bShr .u64 (bXor .u64 a0 (bShl .u64 a0 (13:Int))) (7:Int))) (bShl .u64 (bXor .u64 (bXor .u64 a0 (bShl .u64 a0 (13:Int))) (bShr .u64 (bXor .u64 a0 (bShl .u64 a0 (13:Int))) (7:Int))) (17:Int))))
def F_slices_breakPatternsOrdered_uint64_L1 (a0 : Nat) (a2 : Int) (a3 : Int) (r1 : Int) : Nat → (List Int) → Int → Int → Option ((List Int) × Int)
  | 0, _, _, _ => none
  | n77+1, v37, v38, v39 =>
    if (decide (v39 ≤ (IntKind.wrap .i64 ((IntKind.wrap .i64 (a2 + (IntKind.wrap .i64 ((IntKind.wrap .i64 (Int.tdiv (IntKind.wrap .i64 (a3 - a2)) (4:Int))) * (2:Int))))) + (1:Int))))) = true then
      ((F_slices_xorshift_Next v38).bind fun (r96 : (Int × Int)) =>
      (if (decide ((IntKind.wrap .i64 (bAnd .u64 r96.1 (IntKind.wrap .u64 (r1 - (1:Int))))) ≥ (IntKind.wrap .i64 (a3 - a2)))) = true then
        some (IntKind.wrap .i64 ((IntKind.wrap .i64 (bAnd .u64 r96.1 (IntKind.wrap .u64 (r1 - (1:Int))))) - (IntKind.wrap .i64 (a3 - a2))))
      else
        some (IntKind.wrap .i64 (bAnd .u64 r96.1 (IntKind.wrap .u64 (r1 - (1:Int)))))).bind fun (v99 : Int) =>
        (idxn a0 v37 (IntKind.wrap .i64 (a2 + v99))).bind fun (x102 : Int) =>
        (idxn a0 v37 v39).bind fun (x104 : Int) =>
        (idxn a0 v37 v39).bind fun (_ : Int) =>
        (idxn a0 (List.set v37 (Int.toNat v39) x102) (IntKind.wrap .i64 (a2 + v99))).bind fun (_ : Int) =>
        some ((List.set (List.set v37 (Int.toNat v39) x102) (Int.toNat (IntKind.wrap .i64 (a2 + v99))) x104), r96.2)).bind fun (o94 : ((List Int) × Int)) =>
      match o94 with
      | (v92, v93) =>
        F_slices_breakPatternsOrdered_uint64_L1 a0 a2 a3 r1 n77 v92 v93 (IntKind.wrap .i64 (v39 + (1:Int)))
    else
      some (v37, v38)
def F_slices_breakPatternsOrdered_uint64 (a0 : Nat) (a1 : (List Int)) (a2 : Int) (a3 : Int) : Option (List Int) :=
  if (decide ((IntKind.wrap .i64 (a3 - a2)) ≥ (8:Int))) = true then
    (F_slices_nextPowerOfTwo (IntKind.wrap .i64 (a3 - a2))).bind fun (r1 : Int) =>
    (F_slices_breakPatternsOrdered_uint64_L1 a0 a2 a3 r1 fuel a1 (IntKind.wrap .u64 (IntKind.wrap .i64 (a3 - a2))) (IntKind.wrap .i64 ((IntKind.wrap .i64 (a2 + (IntKind.wrap .i64 ((IntKind.wrap .i64 (Int.tdiv (IntKind.wrap .i64 (a3 - a2)) (4:Int))) * (2:Int))))) - (1:Int)))).bind fun (o75 : ((List Int) × Int)) =>
    match o75 with
    | (v73, _) =>
      some v73
  else
    some a1
def F_slices_order2Ordered_uint64 (a0 : Nat) (a1 : (List Int)) (a2 : Int) (a3 : Int) (a4 : Int) : Option (Int × Int × Int) :=
  (idxn a0 a1 a3).bind fun (x1 : Int) =>
  (idxn a0 a1 a2).bind fun (x3 : Int) =>
  (F_cmp_Less_uint64 x1 x3).bind fun (r5 : Bool) =>
  if r5 = true then
    some (a3, a2, (IntKind.wrap .i64 (a4 + (1:Int))))
  else
    some (a2, a3, a4)
def F_slices_medianOrdered_uint64 (a0 : Nat) (a1 : (List Int)) (a2 : Int) (a3 : Int) (a4 : Int) (a5 : Int) : Option (Int × Int) :=
  (F_slices_order2Ordered_uint64 a0 a1 a2 a3 a5).bind fun (r1 : (Int × Int × Int)) =>
  (F_slices_order2Ordered_uint64 a0 a1 r1.2.1 a4 r1.2.2).bind fun (r3 : (Int × Int × Int)) =>
  (F_slices_order2Ordered_uint64 a0 a1 r1.1 r3.1 r3.2.2).bind fun (r5 : (Int × Int × Int)) =>
  some (r5.2.1, r5.2.2)
def F_slices_medianAdjacentOrdered_uint64 (a0 : Nat) (a1 : (List Int)) (a2 : Int) (a3 : Int) : Option (Int × Int) :=
  (F_slices_medianOrdered_uint64 a0 a1 (IntKind.wrap .i64 (a2 - (1:Int))) a2 (IntKind.wrap .i64 (a2 + (1:Int))) a3).bind fun (r1 : (Int × Int)) =>
  some (r1.1, r1.2)
def F_slices_choosePivotOrdered_uint64 (a0 : Nat) (a1 : (List Int)) (a2 : Int) (a3 : Int) : Option (Int × Int) :=
  (if (decide ((IntKind.wrap .i64 (a3 - a2)) ≥ (8:Int))) = true then
    (if (decide ((IntKind.wrap .i64 (a3 - a2)) ≥ (50:Int))) = true then
      (F_slices_medianAdjacentOrdered_uint64 a0 a1 (IntKind.wrap .i64 (a2 + (IntKind.wrap .i64 ((IntKind.wrap .i64 (Int.tdiv (IntKind.wrap .i64 (a3 - a2)) (4:Int))) * (1:Int))))) (0:Int)).bind fun (r41 : (Int × Int)) =>
      (F_slices_medianAdjacentOrdered_uint64 a0 a1 (IntKind.wrap .i64 (a2 + (IntKind.wrap .i64 ((IntKind.wrap .i64 (Int.tdiv (IntKind.wrap .i64 (a3 - a2)) (4:Int))) * (2:Int))))) r41.2).bind fun (r43 : (Int × Int)) =>
      (F_slices_medianAdjacentOrdered_uint64 a0 a1 (IntKind.wrap .i64 (a2 + (IntKind.wrap .i64 ((IntKind.wrap .i64 (Int.tdiv (IntKind.wrap .i64 (a3 - a2)) (4:Int))) * (3:Int))))) r43.2).bind fun (r45 : (Int × Int)) =>
      some (r45.2, r41.1, r43.1, r45.1)
    else
      some ((0:Int), (IntKind.wrap .i64 (a2 + (IntKind.wrap .i64 ((IntKind.wrap .i64 (Int.tdiv (IntKind.wrap .i64 (a3 - a2)) (4:Int))) * (1:Int))))), (IntKind.wrap .i64 (a2 + (IntKind.wrap .i64 ((IntKind.wrap .i64 (Int.tdiv (IntKind.wrap .i64 (a3 - a2)) (4:Int))) * (2:Int))))), (IntKind.wrap .i64 (a2 + (IntKind.wrap .i64 ((IntKind.wrap .i64 (Int.tdiv (IntKind.wrap .i64 (a3 - a2)) (4:Int))) * (3:Int))))))).bind fun (o39 : (Int × Int × Int × Int)) =>
    match o39 with
    | (v35, v36, v37, v38) =>
      (F_slices_medianOrdered_uint64 a0 a1 v36 v37 v38 v35).bind fun (r48 : (Int × Int)) =>
      some (r48.2, r48.1)
  else
    some ((0:Int), (IntKind.wrap .i64 (a2 + (IntKind.wrap .i64 ((IntKind.wrap .i64 (Int.tdiv (IntKind.wrap .i64 (a3 - a2)) (4:Int))) * (2:Int))))))).bind fun (o26 : (Int × Int)) =>
  match o26 with
  | (v24, v25) =>
    if (v24 == (0:Int)) = true then
      some (v25, (1:Int))
    else
      if (v24 == (12:Int)) = true then
        some (v25, (2:Int))
      else
        some (v25, (0:Int))
def F_slices_reverseRangeOrdered_uint64_L1 (a0 : Nat) : Nat → (List Int) → Int → Int → Option (List Int)
  | 0, _, _, _ => none
  | n26+1, v12, v13, v14 =>
    if (decide (v13 < v14)) = true then
      (idxn a0 v12 v14).bind fun (x27 : Int) =>
      (idxn a0 v12 v13).bind fun (x29 : Int) =>
      (idxn a0 v12 v13).bind fun (_ : Int) =>
      (idxn a0 (List.set v12 (Int.toNat v13) x27) v14).bind fun (_ : Int) =>
      F_slices_reverseRangeOrdered_uint64_L1 a0 n26 (List.set (List.set v12 (Int.toNat v13) x27) (Int.toNat v14) x29) (IntKind.wrap .i64 (v13 + (1:Int))) (IntKind.wrap .i64 (v14 - (1:Int)))
    else
      some v12
def F_slices_reverseRangeOrdered_uint64 (a0 : Nat) (a1 : (List Int)) (a2 : Int) (a3 : Int) : Option (List Int) :=
  (F_slices_reverseRangeOrdered_uint64_L1 a0 fuel a1 a2 (IntKind.wrap .i64 (a3 - (1:Int)))).bind fun (v24 : (List Int)) =>
    some v24
def F_slices_partialInsertionSortOrdered_uint64_L2 (a0 : Nat) (a3 : Int) (v423 : (List Int)) : Nat → Int → Option Int
  | 0, _ => none
  | n1077+1, v1061 =>
    (some (decide (v1061 < a3))).bind fun (b1078 : Bool) =>
    (if b1078 = true then
      (idxn a0 v423 v1061).bind fun (x1080 : Int) =>
      (idxn a0 v423 (IntKind.wrap .i64 (v1061 - (1:Int)))).bind fun (x1082 : Int) =>
      (F_cmp_Less_uint64 x1080 x1082).bind fun (r1084 : Bool) =>
      some (!r1084)
     else some false).bind fun (v1086 : Bool) =>
    if v1086 = true then
      F_slices_partialInsertionSortOrdered_uint64_L2 a0 a3 v423 n1077 (IntKind.wrap .i64 (v1061 + (1:Int)))
    else
      some v1061
def F_slices_partialInsertionSortOrdered_uint64_L3 (a0 : Nat) : Nat → (List Int) → Int → Option (List Int)
  | 0, _, _ => none
  | n1193+1, v1173, v1174 =>
    if (decide (v1174 ≥ (1:Int))) = true then
      (idxn a0 v1173 v1174).bind fun (x1194 : Int) =>
      (idxn a0 v1173 (IntKind.wrap .i64 (v1174 - (1:Int)))).bind fun (x1196 : Int) =>
      (F_cmp_Less_uint64 x1194 x1196).bind fun (r1198 : Bool) =>
      if (!r1198) = true then
        some v1173
      else
        (idxn a0 v1173 (IntKind.wrap .i64 (v1174 - (1:Int)))).bind fun (x1200 : Int) =>
        (idxn a0 v1173 v1174).bind fun (x1202 : Int) =>
        (idxn a0 v1173 v1174).bind fun (_ : Int) =>
        (idxn a0 (List.set v1173 (Int.toNat v1174) x1200) (IntKind.wrap .i64 (v1174 - (1:Int)))).bind fun (_ : Int) =>
        F_slices_partialInsertionSortOrdered_uint64_L3 a0 n1193 (List.set (List.set v1173 (Int.toNat v1174) x1200) (Int.toNat (IntKind.wrap .i64 (v1174 - (1:Int)))) x1202) (IntKind.wrap .i64 (v1174 - (1:Int)))
    else
      some v1173
def F_slices_partialInsertionSortOrdered_uint64_L4 (a0 : Nat) (a3 : Int) : Nat → (List Int) → Int → Option (List Int)
  | 0, _, _ => none
  | n1248+1, v1228, v1229 =>
    if (decide (v1229 < a3)) = true then
      (idxn a0 v1228 v1229).bind fun (x1249 : Int) =>
      (idxn a0 v1228 (IntKind.wrap .i64 (v1229 - (1:Int)))).bind fun (x1251 : Int) =>
      (F_cmp_Less_uint64 x1249 x1251).bind fun (r1253 : Bool) =>
      if (!r1253) = true then
        some v1228
      else
        (idxn a0 v1228 (IntKind.wrap .i64 (v1229 - (1:Int)))).bind fun (x1255 : Int) =>
        (idxn a0 v1228 v1229).bind fun (x1257 : Int) =>
        (idxn a0 v1228 v1229).bind fun (_ : Int) =>
        (idxn a0 (List.set v1228 (Int.toNat v1229) x1255) (IntKind.wrap .i64 (v1229 - (1:Int)))).bind fun (_ : Int) =>
        F_slices_partialInsertionSortOrdered_uint64_L4 a0 a3 n1248 (List.set (List.set v1228 (Int.toNat v1229) x1255) (Int.toNat (IntKind.wrap .i64 (v1229 - (1:Int)))) x1257) (IntKind.wrap .i64 (v1229 + (1:Int)))
    else
      some v1228
def F_slices_partialInsertionSortOrdered_uint64_L1 (a0 : Nat) (a2 : Int) (a3 : Int) : Nat → (List Int) → Int → Int → Option ((List Int) ⊕ (Bool × (List Int)))
  | 0, _, _, _ => none
  | n849+1, v423, v424, v425 =>
    if (decide (v425 < (5:Int))) = true then
      ((F_slices_partialInsertionSortOrdered_uint64_L2 a0 a3 v423 fuel v424).bind fun (v1075 : Int) =>
        if (v1075 == a3) = true then
          some (.inr (true, v423))
        else
          if (decide ((IntKind.wrap .i64 (a3 - a2)) < (50:Int))) = true then
            some (.inr (false, v423))
          else
            (idxn a0 v423 (IntKind.wrap .i64 (v1075 - (1:Int)))).bind fun (x1091 : Int) =>
            (idxn a0 v423 v1075).bind fun (x1093 : Int) =>
            (idxn a0 v423 v1075).bind fun (_ : Int) =>
            (idxn a0 (List.set v423 (Int.toNat v1075) x1091) (IntKind.wrap .i64 (v1075 - (1:Int)))).bind fun (_ : Int) =>
            (if (decide ((IntKind.wrap .i64 (v1075 - a2)) ≥ (2:Int))) = true then
              (F_slices_partialInsertionSortOrdered_uint64_L3 a0 fuel (List.set (List.set v423 (Int.toNat v1075) x1091) (Int.toNat (IntKind.wrap .i64 (v1075 - (1:Int)))) x1093) (IntKind.wrap .i64 (v1075 - (1:Int)))).bind fun (v1191 : (List Int)) =>
                some v1191
            else
              some (List.set (List.set v423 (Int.toNat v1075) x1091) (Int.toNat (IntKind.wrap .i64 (v1075 - (1:Int)))) x1093)).bind fun (v1154 : (List Int)) =>
              if (decide ((IntKind.wrap .i64 (a3 - v1075)) ≥ (2:Int))) = true then
                (F_slices_partialInsertionSortOrdered_uint64_L4 a0 a3 fuel v1154 (IntKind.wrap .i64 (v1075 + (1:Int)))).bind fun (v1246 : (List Int)) =>
                  some (.inl (v1246, v1075))
              else
                some (.inl (v1154, v1075))).bind fun (o1059 : (((List Int) × Int) ⊕ (Bool × (List Int)))) =>
      match o1059 with
      | .inl (v1057, v1058) =>
          F_slices_partialInsertionSortOrdered_uint64_L1 a0 a2 a3 n849 v1057 v1058 (IntKind.wrap .i64 (v425 + (1:Int)))
      | .inr r1268 =>
          some (.inr r1268)
    else
      some (.inl v423)
def F_slices_partialInsertionSortOrdered_uint64 (a0 : Nat) (a1 : (List Int)) (a2 : Int) (a3 : Int) : Option (Bool × (List Int)) :=
  (F_slices_partialInsertionSortOrdered_uint64_L1 a0 a2 a3 fuel a1 (IntKind.wrap .i64 (a2 + (1:Int))) (0:Int)).bind fun (o847 : ((List Int) ⊕ (Bool × (List Int)))) =>
  match o847 with
  | .inl v846 =>
      some (false, v846)
  | .inr r1270 =>
      some r1270
def F_slices_partitionEqualOrdered_uint64_L2 (a0 : Nat) (a2 : Int) (v80 : (List Int)) (v82 : Int) : Nat → Int → Option Int
  | 0, _ => none
  | n173+1, v157 =>
    (some (decide (v157 ≤ v82))).bind fun (b174 : Bool) =>
    (if b174 = true then
      (idxn a0 v80 a2).bind fun (x176 : Int) =>
      (idxn a0 v80 v157).bind fun (x178 : Int) =>
      (F_cmp_Less_uint64 x176 x178).bind fun (r180 : Bool) =>
      some (!r180)
     else some false).bind fun (v182 : Bool) =>
    if v182 = true then
      F_slices_partitionEqualOrdered_uint64_L2 a0 a2 v80 v82 n173 (IntKind.wrap .i64 (v157 + (1:Int)))
    else
      some v157
def F_slices_partitionEqualOrdered_uint64_L3 (a0 : Nat) (a2 : Int) (v80 : (List Int)) (v171 : Int) : Nat → Int → Option Int
  | 0, _ => none
  | n203+1, v187 =>
    (some (decide (v171 ≤ v187))).bind fun (b204 : Bool) =>
    (if b204 = true then
      (idxn a0 v80 a2).bind fun (x206 : Int) =>
      (idxn a0 v80 v187).bind fun (x208 : Int) =>
      (F_cmp_Less_uint64 x206 x208).bind fun (r210 : Bool) =>
      some r210
     else some false).bind fun (v212 : Bool) =>
    if v212 = true then
      F_slices_partitionEqualOrdered_uint64_L3 a0 a2 v80 v171 n203 (IntKind.wrap .i64 (v187 - (1:Int)))
    else
      some v187
def F_slices_partitionEqualOrdered_uint64_L1 (a0 : Nat) (a2 : Int) : Nat → (List Int) → Int → Int → Option ((List Int) × Int)
  | 0, _, _, _ => none
  | n156+1, v80, v81, v82 =>
    (F_slices_partitionEqualOrdered_uint64_L2 a0 a2 v80 v82 fuel v81).bind fun (v171 : Int) =>
      (F_slices_partitionEqualOrdered_uint64_L3 a0 a2 v80 v171 fuel v82).bind fun (v201 : Int) =>
        if (decide (v171 > v201)) = true then
          some (v80, v171)
        else
          (idxn a0 v80 v201).bind fun (x217 : Int) =>
          (idxn a0 v80 v171).bind fun (x219 : Int) =>
          (idxn a0 v80 v171).bind fun (_ : Int) =>
          (idxn a0 (List.set v80 (Int.toNat v171) x217) v201).bind fun (_ : Int) =>
          F_slices_partitionEqualOrdered_uint64_L1 a0 a2 n156 (List.set (List.set v80 (Int.toNat v171) x217) (Int.toNat v201) x219) (IntKind.wrap .i64 (v171 + (1:Int))) (IntKind.wrap .i64 (v201 - (1:Int)))
def F_slices_partitionEqualOrdered_uint64 (a0 : Nat) (a1 : (List Int)) (a2 : Int) (a3 : Int) (a4 : Int) : Option (Int × (List Int)) :=
  (idxn a0 a1 a4).bind fun (x1 : Int) =>
  (idxn a0 a1 a2).bind fun (x3 : Int) =>
  (idxn a0 a1 a2).bind fun (_ : Int) =>
  (idxn a0 (List.set a1 (Int.toNat a2) x1) a4).bind fun (_ : Int) =>
  (F_slices_partitionEqualOrdered_uint64_L1 a0 a2 fuel (List.set (List.set a1 (Int.toNat a2) x1) (Int.toNat a4) x3) (IntKind.wrap .i64 (a2 + (1:Int))) (IntKind.wrap .i64 (a3 - (1:Int)))).bind fun (o154 : ((List Int) × Int)) =>
  match o154 with
  | (v152, v153) =>
    some (v153, v152)
def F_slices_partitionOrdered_uint64_L1 (a0 : Nat) (a1 : (List Int)) (a2 : Int) (a3 : Int) (a4 : Int) (x1 : Int) (x3 : Int) : Nat → Int → Option Int
  | 0, _ => none
  | n25+1, v9 =>
    (some (decide (v9 ≤ (IntKind.wrap .i64 (a3 - (1:Int)))))).bind fun (b26 : Bool) =>
    (if b26 = true then
      (idxn a0 (List.set (List.set a1 (Int.toNat a2) x1) (Int.toNat a4) x3) v9).bind fun (x28 : Int) =>
      (idxn a0 (List.set (List.set a1 (Int.toNat a2) x1) (Int.toNat a4) x3) a2).bind fun (x30 : Int) =>
      (F_cmp_Less_uint64 x28 x30).bind fun (r32 : Bool) =>
      some r32
     else some false).bind fun (v34 : Bool) =>
    if v34 = true then
      F_slices_partitionOrdered_uint64_L1 a0 a1 a2 a3 a4 x1 x3 n25 (IntKind.wrap .i64 (v9 + (1:Int)))
    else
      some v9
def F_slices_partitionOrdered_uint64_L2 (a0 : Nat) (a1 : (List Int)) (a2 : Int) (a4 : Int) (x1 : Int) (x3 : Int) (v23 : Int) : Nat → Int → Option Int
  | 0, _ => none
  | n55+1, v39 =>
    (some (decide (v23 ≤ v39))).bind fun (b56 : Bool) =>
    (if b56 = true then
      (idxn a0 (List.set (List.set a1 (Int.toNat a2) x1) (Int.toNat a4) x3) v39).bind fun (x58 : Int) =>
      (idxn a0 (List.set (List.set a1 (Int.toNat a2) x1) (Int.toNat a4) x3) a2).bind fun (x60 : Int) =>
      (F_cmp_Less_uint64 x58 x60).bind fun (r62 : Bool) =>
      some (!r62)
     else some false).bind fun (v64 : Bool) =>
    if v64 = true then
      F_slices_partitionOrdered_uint64_L2 a0 a1 a2 a4 x1 x3 v23 n55 (IntKind.wrap .i64 (v39 - (1:Int)))
    else
      some v39
def F_slices_partitionOrdered_uint64_L4 (a0 : Nat) (a2 : Int) (v156 : (List Int)) (v158 : Int) : Nat → Int → Option Int
  | 0, _ => none
  | n249+1, v233 =>
    (some (decide (v233 ≤ v158))).bind fun (b250 : Bool) =>
    (if b250 = true then
      (idxn a0 v156 v233).bind fun (x252 : Int) =>
      (idxn a0 v156 a2).bind fun (x254 : Int) =>
      (F_cmp_Less_uint64 x252 x254).bind fun (r256 : Bool) =>
      some r256
     else some false).bind fun (v258 : Bool) =>
    if v258 = true then
      F_slices_partitionOrdered_uint64_L4 a0 a2 v156 v158 n249 (IntKind.wrap .i64 (v233 + (1:Int)))
    else
      some v233
def F_slices_partitionOrdered_uint64_L5 (a0 : Nat) (a2 : Int) (v156 : (List Int)) (v247 : Int) : Nat → Int → Option Int
  | 0, _ => none
  | n279+1, v263 =>
    (some (decide (v247 ≤ v263))).bind fun (b280 : Bool) =>
    (if b280 = true then
      (idxn a0 v156 v263).bind fun (x282 : Int) =>
      (idxn a0 v156 a2).bind fun (x284 : Int) =>
      (F_cmp_Less_uint64 x282 x284).bind fun (r286 : Bool) =>
      some (!r286)
     else some false).bind fun (v288 : Bool) =>
    if v288 = true then
      F_slices_partitionOrdered_uint64_L5 a0 a2 v156 v247 n279 (IntKind.wrap .i64 (v263 - (1:Int)))
    else
      some v263
def F_slices_partitionOrdered_uint64_L3 (a0 : Nat) (a2 : Int) : Nat → (List Int) → Int → Int → Option ((List Int) × Int)
  | 0, _, _, _ => none
  | n232+1, v156, v157, v158 =>
    (F_slices_partitionOrdered_uint64_L4 a0 a2 v156 v158 fuel v157).bind fun (v247 : Int) =>
      (F_slices_partitionOrdered_uint64_L5 a0 a2 v156 v247 fuel v158).bind fun (v277 : Int) =>
        if (decide (v247 > v277)) = true then
          some (v156, v277)
        else
          (idxn a0 v156 v277).bind fun (x293 : Int) =>
          (idxn a0 v156 v247).bind fun (x295 : Int) =>
          (idxn a0 v156 v247).bind fun (_ : Int) =>
          (idxn a0 (List.set v156 (Int.toNat v247) x293) v277).bind fun (_ : Int) =>
          F_slices_partitionOrdered_uint64_L3 a0 a2 n232 (List.set (List.set v156 (Int.toNat v247) x293) (Int.toNat v277) x295) (IntKind.wrap .i64 (v247 + (1:Int))) (IntKind.wrap .i64 (v277 - (1:Int)))
def F_slices_partitionOrdered_uint64 (a0 : Nat) (a1 : (List Int)) (a2 : Int) (a3 : Int) (a4 : Int) : Option (Int × Bool × (List Int)) :=
  (idxn a0 a1 a4).bind fun (x1 : Int) =>
  (idxn a0 a1 a2).bind fun (x3 : Int) =>
  (idxn a0 a1 a2).bind fun (_ : Int) =>
  (idxn a0 (List.set a1 (Int.toNat a2) x1) a4).bind fun (_ : Int) =>
  (F_slices_partitionOrdered_uint64_L1 a0 a1 a2 a3 a4 x1 x3 fuel (IntKind.wrap .i64 (a2 + (1:Int)))).bind fun (v23 : Int) =>
    (F_slices_partitionOrdered_uint64_L2 a0 a1 a2 a4 x1 x3 v23 fuel (IntKind.wrap .i64 (a3 - (1:Int)))).bind fun (v53 : Int) =>
      if (decide (v23 > v53)) = true then
        (idxn a0 (List.set (List.set a1 (Int.toNat a2) x1) (Int.toNat a4) x3) a2).bind fun (x69 : Int) =>
        (idxn a0 (List.set (List.set a1 (Int.toNat a2) x1) (Int.toNat a4) x3) v53).bind fun (x71 : Int) =>
        (idxn a0 (List.set (List.set a1 (Int.toNat a2) x1) (Int.toNat a4) x3) v53).bind fun (_ : Int) =>
        (idxn a0 (List.set (List.set (List.set a1 (Int.toNat a2) x1) (Int.toNat a4) x3) (Int.toNat v53) x69) a2).bind fun (_ : Int) =>
        some (v53, true, (List.set (List.set (List.set (List.set a1 (Int.toNat a2) x1) (Int.toNat a4) x3) (Int.toNat v53) x69) (Int.toNat a2) x71))
      else
        (idxn a0 (List.set (List.set a1 (Int.toNat a2) x1) (Int.toNat a4) x3) v53).bind fun (x77 : Int) =>
        (idxn a0 (List.set (List.set a1 (Int.toNat a2) x1) (Int.toNat a4) x3) v23).bind fun (x79 : Int) =>
        (idxn a0 (List.set (List.set a1 (Int.toNat a2) x1) (Int.toNat a4) x3) v23).bind fun (_ : Int) =>
        (idxn a0 (List.set (List.set (List.set a1 (Int.toNat a2) x1) (Int.toNat a4) x3) (Int.toNat v23) x77) v53).bind fun (_ : Int) =>
        (F_slices_partitionOrdered_uint64_L3 a0 a2 fuel (List.set (List.set (List.set (List.set a1 (Int.toNat a2) x1) (Int.toNat a4) x3) (Int.toNat v23) x77) (Int.toNat v53) x79) (IntKind.wrap .i64 (v23 + (1:Int))) (IntKind.wrap .i64 (v53 - (1:Int)))).bind fun (o230 : ((List Int) × Int)) =>
        match o230 with
        | (v228, v229) =>
          (idxn a0 v228 a2).bind fun (x302 : Int) =>
          (idxn a0 v228 v229).bind fun (x304 : Int) =>
          (idxn a0 v228 v229).bind fun (_ : Int) =>
          (idxn a0 (List.set v228 (Int.toNat v229) x302) a2).bind fun (_ : Int) =>
          some (v229, false, (List.set (List.set v228 (Int.toNat v229) x302) (Int.toNat a2) x304))
def F_slices_pdqsortOrdered_uint64_L1 (a0 : Nat) (z0 : Nat → (List Int) → Int → Int → Int → Option (List Int)) : Nat → (List Int) → Int → Int → Int → Bool → Bool → Option (List Int)
  | 0, _, _, _, _, _, _ => none
  | n156+1, v77, v78, v79, v80, v81, v82 =>
    if (decide ((IntKind.wrap .i64 (v79 - v78)) ≤ (12:Int))) = true then
      (F_slices_insertionSortOrdered_uint64 a0 v77 v78 v79).bind fun (r157 : (List Int)) =>
      some r157
    else
      if (v80 == (0:Int)) = true then
        (F_slices_heapSortOrdered_uint64 a0 v77 v78 v79).bind fun (r159 : (List Int)) =>
        some r159
      else
        (if (!v81) = true then
          (F_slices_breakPatternsOrdered_uint64 a0 v77 v78 v79).bind fun (r168 : (List Int)) =>
          some (r168, (IntKind.wrap .i64 (v80 - (1:Int))))
        else
          some (v77, v80)).bind fun (o166 : ((List Int) × Int)) =>
        match o166 with
        | (v164, v165) =>
          (F_slices_choosePivotOrdered_uint64 a0 v164 v78 v79).bind fun (r171 : (Int × Int)) =>
          (if (r171.2 == (2:Int)) = true then
            (F_slices_reverseRangeOrdered_uint64 a0 v164 v78 v79).bind fun (r181 : (List Int)) =>
            some (r181, (IntKind.wrap .i64 ((IntKind.wrap .i64 (v79 - (1:Int))) - (IntKind.wrap .i64 (r171.1 - v78)))), (1:Int))
          else
            some (v164, r171.1, r171.2)).bind fun (o179 : ((List Int) × Int × Int)) =>
          match o179 with
          | (v176, v177, v178) =>
            ((some v81).bind fun (b195 : Bool) =>
            (some (b195 && v82)).bind fun (b197 : Bool) =>
            if (b197 && (v178 == (1:Int))) = true then
              (F_slices_partialInsertionSortOrdered_uint64 a0 v176 v78 v79).bind fun (r199 : (Bool × (List Int))) =>
              if r199.1 = true then
                some (.inr r199.2)
              else
                some (.inl r199.2)
            else
              some (.inl v176)).bind fun (o193 : ((List Int) ⊕ (List Int))) =>
            match o193 with
            | .inl v192 =>
                (some (decide (v78 > (0:Int)))).bind fun (b203 : Bool) =>
                (if b203 = true then
                  (idxn a0 v192 (IntKind.wrap .i64 (v78 - (1:Int)))).bind fun (x205 : Int) =>
                  (idxn a0 v192 v177).bind fun (x207 : Int) =>
                  (F_cmp_Less_uint64 x205 x207).bind fun (r209 : Bool) =>
                  some (!r209)
                 else some false).bind fun (v211 : Bool) =>
                if v211 = true then
                  (F_slices_partitionEqualOrdered_uint64 a0 v192 v78 v79 v177).bind fun (r215 : (Int × (List Int))) =>
                  F_slices_pdqsortOrdered_uint64_L1 a0 z0 n156 r215.2 r215.1 v79 v165 v81 v82
                else
                  (F_slices_partitionOrdered_uint64 a0 v192 v78 v79 v177).bind fun (r217 : (Int × Bool × (List Int))) =>
                  if (decide ((IntKind.wrap .i64 (r217.1 - v78)) < (IntKind.wrap .i64 (v79 - r217.1)))) = true then
                    (z0 a0 r217.2.2 v78 r217.1 v165).bind fun (r219 : (List Int)) =>
                    F_slices_pdqsortOrdered_uint64_L1 a0 z0 n156 r219 (IntKind.wrap .i64 (r217.1 + (1:Int))) v79 v165 (decide ((IntKind.wrap .i64 (r217.1 - v78)) ≥ (IntKind.wrap .i64 (Int.tdiv (IntKind.wrap .i64 (v79 - v78)) (8:Int))))) r217.2.1
                  else
                    (z0 a0 r217.2.2 (IntKind.wrap .i64 (r217.1 + (1:Int))) v79 v165).bind fun (r221 : (List Int)) =>
                    F_slices_pdqsortOrdered_uint64_L1 a0 z0 n156 r221 v78 r217.1 v165 (decide ((IntKind.wrap .i64 (v79 - r217.1)) ≥ (IntKind.wrap .i64 (Int.tdiv (IntKind.wrap .i64 (v79 - v78)) (8:Int))))) r217.2.1
            | .inr r225 =>
                some r225
def F_slices_pdqsortOrdered_uint64 : Nat → Nat → (List Int) → Int → Int → Int → Option (List Int)
  | 0, _, _, _, _, _ => none
  | nr+1, a0, a1, a2, a3, a4 =>
    (F_slices_pdqsortOrdered_uint64_L1 a0 (F_slices_pdqsortOrdered_uint64 nr) fuel a1 a2 a3 a4 true true).bind fun (o154 : (List Int)) =>
    match o154 with
    | r228 =>
      some r228
def F_slices_Sort_uint64_uint64 (a0 : Nat) (a1 : (List Int)) : Option (List Int) :=
  (F_math_bits_Len (IntKind.wrap .u64 (a0 : Int))).bind fun (r1 : Int) =>
  (F_slices_pdqsortOrdered_uint64 fuel a0 a1 (0:Int) (a0 : Int) r1).bind fun (r3 : (List Int)) =>
  some r3
def F_slices_Compact_uint64_uint64_L2 (a0 : Nat) (v1 : Int) : Nat → (List Int) → Int → Int → Option ((List Int) × Int)
  | 0, _, _, _ => none
  | n154+1, v124, v125, v126 =>
    if (decide (v126 < (((Int.toNat (a0 : Int) - Int.toNat v1) : Nat) : Int))) = true then
      ((idxv (Int.toNat (a0 : Int) - Int.toNat v1) v124 v1 v126).bind fun (x168 : Int) =>
      (idxv (Int.toNat (a0 : Int) - Int.toNat v1) v124 v1 (IntKind.wrap .i64 (v126 - (1:Int)))).bind fun (x170 : Int) =>
      if (x168 != x170) = true then
        (idxv (Int.toNat (a0 : Int) - Int.toNat v1) v124 v1 v126).bind fun (x172 : Int) =>
        (idxn a0 v124 v125).bind fun (_ : Int) =>
        some ((List.set v124 (Int.toNat v125) x172), (IntKind.wrap .i64 (v125 + (1:Int))))
      else
        some (v124, v125)).bind fun (o166 : ((List Int) × Int)) =>
      match o166 with
      | (v164, v165) =>
        F_slices_Compact_uint64_uint64_L2 a0 v1 n154 v164 v165 (IntKind.wrap .i64 (v126 + (1:Int)))
    else
      some (v124, v125)
def F_slices_Compact_uint64_uint64_L1 (a0 : Nat) (a1 : (List Int)) : Nat → Int → Option (Unit ⊕ (Nat × (List Int)))
  | 0, _ => none
  | n93+1, v1 =>
    if (decide (v1 < (a0 : Int))) = true then
      (idxn a0 a1 v1).bind fun (x94 : Int) =>
      (idxn a0 a1 (IntKind.wrap .i64 (v1 - (1:Int)))).bind fun (x96 : Int) =>
      if (x94 == x96) = true then
        if 0 ≤ v1 ∧ v1 ≤ (a0 : Int) ∧ (a0 : Int) ≤ (a0 : Int) then
        (F_slices_Compact_uint64_uint64_L2 a0 v1 fuel a1 v1 (1:Int)).bind fun (o152 : ((List Int) × Int)) =>
        match o152 with
        | (v150, v151) =>
          if 0 ≤ v151 ∧ v151 ≤ (a0 : Int) ∧ (a0 : Int) ≤ (a0 : Int) then
          if Int.toNat v151 + (Int.toNat (a0 : Int) - Int.toNat v151) ≤ List.length v150 then
          if 0 ≤ (0:Int) ∧ (0:Int) ≤ v151 ∧ v151 ≤ (a0 : Int) then
          some (.inr ((Int.toNat v151), (List.take (Int.toNat v151) v150 ++ List.replicate (Int.toNat (a0 : Int) - Int.toNat v151) (0:Int) ++ List.drop (Int.toNat v151 + (Int.toNat (a0 : Int) - Int.toNat v151)) v150)))
          else none
          else none
          else none
        else none
      else
        F_slices_Compact_uint64_uint64_L1 a0 a1 n93 (IntKind.wrap .i64 (v1 + (1:Int)))
    else
      some (.inl ())
def F_slices_Compact_uint64_uint64 (a0 : Nat) (a1 : (List Int)) : Option (Nat × (List Int)) :=
  if (decide ((a0 : Int) < (2:Int))) = true then
    some (a0, a1)
  else
    (F_slices_Compact_uint64_uint64_L1 a0 a1 fuel (1:Int)).bind fun (o91 : (Unit ⊕ (Nat × (List Int)))) =>
    match o91 with
    | .inl () =>
        some (a0, a1)
    | .inr r183 =>
        some r183
def F_packetset_cuts_L2 (a0 : Int) (x63 : (List (Arr5 api_Range))) : Nat → (List Int) → Int → Option (List Int)
  | 0, _, _ => none
  | n82+1, v72, v73 =>
    if (decide (v73 < (List.length x63 : Int))) = true then
      (idx x63 v73).bind fun (x83 : (Arr5 api_Range)) =>
      if 0 ≤ a0 ∧ a0 < 5 then
      if 0 ≤ a0 ∧ a0 < 5 then
      if List.length v72 + List.length [(IntKind.wrap .u64 (Arr5.get x83 a0).Lo), (IntKind.wrap .u64 ((IntKind.wrap .u64 (Arr5.get x83 a0).Hi) + (1:Int)))] ≤ lim then
      F_packetset_cuts_L2 a0 x63 n82 (v72 ++ [(IntKind.wrap .u64 (Arr5.get x83 a0).Lo), (IntKind.wrap .u64 ((IntKind.wrap .u64 (Arr5.get x83 a0).Hi) + (1:Int)))]) (IntKind.wrap .i64 (v73 + (1:Int)))
      else none
      else none
      else none
    else
      some v72
def F_packetset_cuts_L1 (a0 : Int) (a1 : (List (List (Arr5 api_Range)))) : Nat → (List Int) → Int → Option (List Int)
  | 0, _, _ => none
  | n62+1, v31, v32 =>
    if (decide (v32 < (List.length a1 : Int))) = true then
      (idx a1 v32).bind fun (x63 : (List (Arr5 api_Range))) =>
      (F_packetset_cuts_L2 a0 x63 fuel v31 (0:Int)).bind fun (v80 : (List Int)) =>
        F_packetset_cuts_L1 a0 a1 n62 v80 (IntKind.wrap .i64 (v32 + (1:Int)))
    else
      some v31
def F_packetset_cuts (a0 : Int) (a1 : (List (List (Arr5 api_Range)))) : Option (List Int) :=
  (F_box_Top a0).bind fun (r1 : Int) =>
  (F_packetset_cuts_L1 a0 a1 fuel [(0:Int), (IntKind.wrap .u64 ((IntKind.wrap .u64 r1) + (1:Int)))] (0:Int)).bind fun (v60 : (List Int)) =>
    if v60 ≠ [] then
    (F_slices_Sort_uint64_uint64 (List.length v60) v60).bind fun (r90 : (List Int)) =>
    if List.length r90 = List.length v60 then
    if r90 ≠ [] then
    (F_slices_Compact_uint64_uint64 (List.length r90) r90).bind fun (r94 : (Nat × (List Int))) =>
    if List.length r94.2 = List.length r90 then
    if r94.1 ≤ List.length r94.2 then
    some (List.take r94.1 r94.2)
    else none
    else none
    else none
    else none
    else none
def F_packetset_covering_L1 (a0 : (List (Arr5 api_Range))) (a1 : Int) (a2 : Int) : Nat → (List (Arr5 api_Range)) → Int → Option (List (Arr5 api_Range))
  | 0, _, _ => none
  | n60+1, v29, v30 =>
    if (decide (v30 < (List.length a0 : Int))) = true then
      ((idx a0 v30).bind fun (x75 : (Arr5 api_Range)) =>
      if 0 ≤ a1 ∧ a1 < 5 then
      (some (decide ((Arr5.get x75 a1).Lo ≤ a2))).bind fun (b78 : Bool) =>
      (if b78 = true then
        if 0 ≤ a1 ∧ a1 < 5 then
        some (decide (a2 ≤ (Arr5.get x75 a1).Hi))
        else none
       else some false).bind fun (v81 : Bool) =>
      if v81 = true then
        if List.length v29 + List.length [x75] ≤ lim then
        some (v29 ++ [x75])
        else none
      else
        some v29
      else none).bind fun (v73 : (List (Arr5 api_Range))) =>
        F_packetset_covering_L1 a0 a1 a2 n60 v73 (IntKind.wrap .i64 (v30 + (1:Int)))
    else
      some v29
def F_packetset_covering (a0 : (List (Arr5 api_Range))) (a1 : Int) (a2 : Int) : Option (List (Arr5 api_Range)) :=
  (F_packetset_covering_L1 a0 a1 a2 fuel ([] : (List (Arr5 api_Range))) (0:Int)).bind fun (v58 : (List (Arr5 api_Range))) =>
    some v58
def F_packetset_canonical_of_either_L1 (a0 : Int) (a1 : (List (Arr5 api_Range))) (a2 : (List (Arr5 api_Range))) (a3 : Int) (z0 : Int → (List (Arr5 api_Range)) → (List (Arr5 api_Range)) → Int → Option ((List (Arr5 api_Range)) × Bool)) (r12 : (List Int)) : Nat → (List packetset_group) → Int → Int → Option (((List packetset_group) × Int) ⊕ ((List (Arr5 api_Range)) × Bool))
  | 0, _, _, _ => none
  | n179+1, v94, v95, v96 =>
    if (decide ((IntKind.wrap .i64 (v96 + (1:Int))) < (List.length r12 : Int))) = true then
      ((idx r12 v96).bind fun (x220 : Int) =>
      (idx r12 (IntKind.wrap .i64 (v96 + (1:Int)))).bind fun (x222 : Int) =>
      (F_packetset_covering a1 a0 (IntKind.wrap .u32 x220)).bind fun (r224 : (List (Arr5 api_Range))) =>
      (F_packetset_covering a2 a0 (IntKind.wrap .u32 x220)).bind fun (r226 : (List (Arr5 api_Range))) =>
      (z0 (IntKind.wrap .i64 (a0 + (1:Int))) r224 r226 a3).bind fun (r228 : ((List (Arr5 api_Range)) × Bool)) =>
      if (!r228.2) = true then
        some (.inr (([] : (List (Arr5 api_Range))), false))
      else
        if ((List.length r228.1 : Int) == (0:Int)) = true then
          some (.inl (v94, v95))
        else
          (some (decide ((List.length v94 : Int) > (0:Int)))).bind fun (b230 : Bool) =>
          (if b230 = true then
            (idx v94 (IntKind.wrap .i64 ((List.length v94 : Int) - (1:Int)))).bind fun (x232 : packetset_group) =>
            some ((IntKind.wrap .u32 (x232.f_values.Hi + (1:Int))) == (IntKind.wrap .u32 x220))
           else some false).bind fun (v234 : Bool) =>
          (some v234).bind fun (b236 : Bool) =>
          (if b236 = true then
            (idx v94 (IntKind.wrap .i64 ((List.length v94 : Int) - (1:Int)))).bind fun (x238 : packetset_group) =>
            (F_slices_Equal_api_Box_api_Box x238.f_rest r228.1).bind fun (r240 : Bool) =>
            some r240
           else some false).bind fun (v242 : Bool) =>
          if v242 = true then
            (idx v94 (IntKind.wrap .i64 ((List.length v94 : Int) - (1:Int)))).bind fun (x249 : packetset_group) =>
            some (.inl ((List.set v94 (Int.toNat (IntKind.wrap .i64 ((List.length v94 : Int) - (1:Int)))) ({ x249 with f_values := ({ x249.f_values with Hi := (IntKind.wrap .u32 (IntKind.wrap .u64 (x222 - (1:Int)))) } : api_Range) } : packetset_group)), v95))
          else
            if List.length v94 + List.length [(packetset_group.mk (api_Range.mk (IntKind.wrap .u32 x220) (IntKind.wrap .u32 (IntKind.wrap .u64 (x222 - (1:Int))))) r228.1)] ≤ lim then
            if (decide ((IntKind.wrap .i64 (v95 + (List.length r228.1 : Int))) > a3)) = true then
              some (.inr (([] : (List (Arr5 api_Range))), false))
            else
              some (.inl ((v94 ++ [(packetset_group.mk (api_Range.mk (IntKind.wrap .u32 x220) (IntKind.wrap .u32 (IntKind.wrap .u64 (x222 - (1:Int))))) r228.1)]), (IntKind.wrap .i64 (v95 + (List.length r228.1 : Int)))))
            else none).bind fun (o218 : (((List packetset_group) × Int) ⊕ ((List (Arr5 api_Range)) × Bool))) =>
      match o218 with
      | .inl (v216, v217) =>
          F_packetset_canonical_of_either_L1 a0 a1 a2 a3 z0 r12 n179 v216 v217 (IntKind.wrap .i64 (v96 + (1:Int)))
      | .inr r256 =>
          some (.inr r256)
    else
      some (.inl (v94, v95))
def F_packetset_canonical_of_either_L3 (a0 : Int) (x325 : packetset_group) : Nat → (List (Arr5 api_Range)) → Int → Option (List (Arr5 api_Range))
  | 0, _, _ => none
  | n346+1, v335, v336 =>
    if (decide (v336 < (List.length x325.f_rest : Int))) = true then
      (idx x325.f_rest v336).bind fun (x347 : (Arr5 api_Range)) =>
      if 0 ≤ a0 ∧ a0 < 5 then
      if List.length v335 + List.length [(Arr5.set x347 a0 x325.f_values)] ≤ lim then
      F_packetset_canonical_of_either_L3 a0 x325 n346 (v335 ++ [(Arr5.set x347 a0 x325.f_values)]) (IntKind.wrap .i64 (v336 + (1:Int)))
      else none
      else none
    else
      some v335
def F_packetset_canonical_of_either_L2 (a0 : Int) (v175 : (List packetset_group)) : Nat → (List (Arr5 api_Range)) → Int → Option (List (Arr5 api_Range))
  | 0, _, _ => none
  | n324+1, v290, v291 =>
    if (decide (v291 < (List.length v175 : Int))) = true then
      (idx v175 v291).bind fun (x325 : packetset_group) =>
      (F_packetset_canonical_of_either_L3 a0 x325 fuel v290 (0:Int)).bind fun (v344 : (List (Arr5 api_Range))) =>
        F_packetset_canonical_of_either_L2 a0 v175 n324 v344 (IntKind.wrap .i64 (v291 + (1:Int)))
    else
      some v290
def F_packetset_canonical_of_either : Nat → Int → (List (Arr5 api_Range)) → (List (Arr5 api_Range)) → Int → Option ((List (Arr5 api_Range)) × Bool)
  | 0, _, _, _, _ => none
  | nr+1, a0, a1, a2, a3 =>
    if (a0 == (5:Int)) = true then
      (F_packetset_either (decide ((List.length a1 : Int) > (0:Int))) (decide ((List.length a2 : Int) > (0:Int)))).bind fun (r1 : Bool) =>
      if r1 = true then
        some ([(Arr5.mk z_api_Range z_api_Range z_api_Range z_api_Range z_api_Range)], true)
      else
        some (([] : (List (Arr5 api_Range))), true)
    else
      (some ((IntKind.wrap .i64 ((List.length a1 : Int) + (List.length a2 : Int))) == (0:Int))).bind fun (b4 : Bool) =>
      (if b4 = true then
        (F_packetset_either false false).bind fun (r6 : Bool) =>
        some (!r6)
       else some false).bind fun (v8 : Bool) =>
      if v8 = true then
        some (([] : (List (Arr5 api_Range))), true)
      else
        (F_packetset_cuts a0 [a1, a2]).bind fun (r12 : (List Int)) =>
        (F_packetset_canonical_of_either_L1 a0 a1 a2 a3 (F_packetset_canonical_of_either nr) r12 fuel ([] : (List packetset_group)) (0:Int) (0:Int)).bind fun (o177 : (((List packetset_group) × Int) ⊕ ((List (Arr5 api_Range)) × Bool))) =>
        match o177 with
        | .inl (v175, v176) =>
            if 0 ≤ v176 ∧ v176 ≤ (lim : Int) then
            (F_packetset_canonical_of_either_L2 a0 v175 fuel ([] : (List (Arr5 api_Range))) (0:Int)).bind fun (v322 : (List (Arr5 api_Range))) =>
              some (v322, true)
            else none
        | .inr r355 =>
            some r355
def F_packetset_combine_of_either (a0 : (List (Arr5 api_Range))) (a1 : (List (Arr5 api_Range))) : Option ((List (Arr5 api_Range)) × Int) :=
  (F_packetset_canonical_of_either fuel (0:Int) a0 a1 (4096:Int)).bind fun (r1 : ((List (Arr5 api_Range)) × Bool)) =>
  if (!r1.2) = true then
    some (([] : (List (Arr5 api_Range))), (3:Int))
  else
    some (r1.1, (0:Int))
def F_packetset_Make_L1 (r1 : (List (Arr5 api_Range))) : Nat → (List (Arr5 api_Range)) → Int → Option ((List (Arr5 api_Range)) ⊕ ((List (Arr5 api_Range)) × Int))
  | 0, _, _ => none
  | n14+1, v3, v4 =>
    if (decide (v4 < (List.length r1 : Int))) = true then
      (idx r1 v4).bind fun (x15 : (Arr5 api_Range)) =>
      (F_packetset_combine_of_either v3 [x15]).bind fun (r17 : ((List (Arr5 api_Range)) × Int)) =>
      if (r17.2 != (0:Int)) = true then
        some (.inr (([] : (List (Arr5 api_Range))), r17.2))
      else
        F_packetset_Make_L1 r1 n14 r17.1 (IntKind.wrap .i64 (v4 + (1:Int)))
    else
      some (.inl v3)
def F_packetset_Make (a0 : (List (Arr5 api_Range))) : Option ((List (Arr5 api_Range)) × Int) :=
  (F_packetset_valid a0).bind fun (r1 : (List (Arr5 api_Range))) =>
  (F_packetset_Make_L1 r1 fuel ([] : (List (Arr5 api_Range))) (0:Int)).bind fun (o12 : ((List (Arr5 api_Range)) ⊕ ((List (Arr5 api_Range)) × Int))) =>
  match o12 with
  | .inl v11 =>
      some (v11, (0:Int))
  | .inr r21 =>
      some r21
def F_rewrite_ledger_keep (a0 : rewrite_ledger) (a1 : (List (Arr5 api_Range))) (a2 : Int) : Option ((List (Arr5 api_Range)) × rewrite_ledger) :=
  (if (a0.f_err == (0:Int)) = true then
    some ({ a0 with f_err := a2 } : rewrite_ledger)
  else
    some a0).bind fun (v2 : rewrite_ledger) =>
    if (v2.f_err != (0:Int)) = true then
      some (([] : (List (Arr5 api_Range))), v2)
    else
      some (a1, v2)
def F_rewrite_ledger_make (a0 : rewrite_ledger) (a1 : (List (Arr5 api_Range))) : Option ((List (Arr5 api_Range)) × rewrite_ledger) :=
  (F_packetset_Valid a1).bind fun (r1 : Bool) =>
  if r1 = true then
    some (a1, a0)
  else
    (F_packetset_Make a1).bind fun (r3 : ((List (Arr5 api_Range)) × Int)) =>
    (F_rewrite_ledger_keep a0 r3.1 r3.2).bind fun (r5 : ((List (Arr5 api_Range)) × rewrite_ledger)) =>
    some (r5.1, r5.2)
def F_packetset_set (a0 : (List (Arr5 api_Range))) : Option ((List (Arr5 api_Range)) × Int) :=
  (F_packetset_Valid a0).bind fun (r1 : Bool) =>
  if r1 = true then
    some (a0, (0:Int))
  else
    (F_packetset_Make a0).bind fun (r3 : ((List (Arr5 api_Range)) × Int)) =>
    some (r3.1, r3.2)
def F_packetset_both (a0 : Bool) (a1 : Bool) : Option Bool :=
  (some a0).bind fun (b1 : Bool) =>
  some (b1 && a1)
def F_packetset_canonical_of_both_L1 (a0 : Int) (a1 : (List (Arr5 api_Range))) (a2 : (List (Arr5 api_Range))) (a3 : Int) (z0 : Int → (List (Arr5 api_Range)) → (List (Arr5 api_Range)) → Int → Option ((List (Arr5 api_Range)) × Bool)) (r12 : (List Int)) : Nat → (List packetset_group) → Int → Int → Option (((List packetset_group) × Int) ⊕ ((List (Arr5 api_Range)) × Bool))
  | 0, _, _, _ => none
  | n179+1, v94, v95, v96 =>
    if (decide ((IntKind.wrap .i64 (v96 + (1:Int))) < (List.length r12 : Int))) = true then
      ((idx r12 v96).bind fun (x220 : Int) =>
      (idx r12 (IntKind.wrap .i64 (v96 + (1:Int)))).bind fun (x222 : Int) =>
      (F_packetset_covering a1 a0 (IntKind.wrap .u32 x220)).bind fun (r224 : (List (Arr5 api_Range))) =>
      (F_packetset_covering a2 a0 (IntKind.wrap .u32 x220)).bind fun (r226 : (List (Arr5 api_Range))) =>
      (z0 (IntKind.wrap .i64 (a0 + (1:Int))) r224 r226 a3).bind fun (r228 : ((List (Arr5 api_Range)) × Bool)) =>
      if (!r228.2) = true then
        some (.inr (([] : (List (Arr5 api_Range))), false))
      else
        if ((List.length r228.1 : Int) == (0:Int)) = true then
          some (.inl (v94, v95))
        else
          (some (decide ((List.length v94 : Int) > (0:Int)))).bind fun (b230 : Bool) =>
          (if b230 = true then
            (idx v94 (IntKind.wrap .i64 ((List.length v94 : Int) - (1:Int)))).bind fun (x232 : packetset_group) =>
            some ((IntKind.wrap .u32 (x232.f_values.Hi + (1:Int))) == (IntKind.wrap .u32 x220))
           else some false).bind fun (v234 : Bool) =>
          (some v234).bind fun (b236 : Bool) =>
          (if b236 = true then
            (idx v94 (IntKind.wrap .i64 ((List.length v94 : Int) - (1:Int)))).bind fun (x238 : packetset_group) =>
            (F_slices_Equal_api_Box_api_Box x238.f_rest r228.1).bind fun (r240 : Bool) =>
            some r240
           else some false).bind fun (v242 : Bool) =>
          if v242 = true then
            (idx v94 (IntKind.wrap .i64 ((List.length v94 : Int) - (1:Int)))).bind fun (x249 : packetset_group) =>
            some (.inl ((List.set v94 (Int.toNat (IntKind.wrap .i64 ((List.length v94 : Int) - (1:Int)))) ({ x249 with f_values := ({ x249.f_values with Hi := (IntKind.wrap .u32 (IntKind.wrap .u64 (x222 - (1:Int)))) } : api_Range) } : packetset_group)), v95))
          else
            if List.length v94 + List.length [(packetset_group.mk (api_Range.mk (IntKind.wrap .u32 x220) (IntKind.wrap .u32 (IntKind.wrap .u64 (x222 - (1:Int))))) r228.1)] ≤ lim then
            if (decide ((IntKind.wrap .i64 (v95 + (List.length r228.1 : Int))) > a3)) = true then
              some (.inr (([] : (List (Arr5 api_Range))), false))
            else
              some (.inl ((v94 ++ [(packetset_group.mk (api_Range.mk (IntKind.wrap .u32 x220) (IntKind.wrap .u32 (IntKind.wrap .u64 (x222 - (1:Int))))) r228.1)]), (IntKind.wrap .i64 (v95 + (List.length r228.1 : Int)))))
            else none).bind fun (o218 : (((List packetset_group) × Int) ⊕ ((List (Arr5 api_Range)) × Bool))) =>
      match o218 with
      | .inl (v216, v217) =>
          F_packetset_canonical_of_both_L1 a0 a1 a2 a3 z0 r12 n179 v216 v217 (IntKind.wrap .i64 (v96 + (1:Int)))
      | .inr r256 =>
          some (.inr r256)
    else
      some (.inl (v94, v95))
def F_packetset_canonical_of_both_L3 (a0 : Int) (x325 : packetset_group) : Nat → (List (Arr5 api_Range)) → Int → Option (List (Arr5 api_Range))
  | 0, _, _ => none
  | n346+1, v335, v336 =>
    if (decide (v336 < (List.length x325.f_rest : Int))) = true then
      (idx x325.f_rest v336).bind fun (x347 : (Arr5 api_Range)) =>
      if 0 ≤ a0 ∧ a0 < 5 then
      if List.length v335 + List.length [(Arr5.set x347 a0 x325.f_values)] ≤ lim then
      F_packetset_canonical_of_both_L3 a0 x325 n346 (v335 ++ [(Arr5.set x347 a0 x325.f_values)]) (IntKind.wrap .i64 (v336 + (1:Int)))
      else none
      else none
    else
      some v335
def F_packetset_canonical_of_both_L2 (a0 : Int) (v175 : (List packetset_group)) : Nat → (List (Arr5 api_Range)) → Int → Option (List (Arr5 api_Range))
  | 0, _, _ => none
  | n324+1, v290, v291 =>
    if (decide (v291 < (List.length v175 : Int))) = true then
      (idx v175 v291).bind fun (x325 : packetset_group) =>
      (F_packetset_canonical_of_both_L3 a0 x325 fuel v290 (0:Int)).bind fun (v344 : (List (Arr5 api_Range))) =>
        F_packetset_canonical_of_both_L2 a0 v175 n324 v344 (IntKind.wrap .i64 (v291 + (1:Int)))
    else
      some v290
def F_packetset_canonical_of_both : Nat → Int → (List (Arr5 api_Range)) → (List (Arr5 api_Range)) → Int → Option ((List (Arr5 api_Range)) × Bool)
  | 0, _, _, _, _ => none
  | nr+1, a0, a1, a2, a3 =>
    if (a0 == (5:Int)) = true then
      (F_packetset_both (decide ((List.length a1 : Int) > (0:Int))) (decide ((List.length a2 : Int) > (0:Int)))).bind fun (r1 : Bool) =>
      if r1 = true then
        some ([(Arr5.mk z_api_Range z_api_Range z_api_Range z_api_Range z_api_Range)], true)
      else
        some (([] : (List (Arr5 api_Range))), true)
    else
      (some ((IntKind.wrap .i64 ((List.length a1 : Int) + (List.length a2 : Int))) == (0:Int))).bind fun (b4 : Bool) =>
      (if b4 = true then
        (F_packetset_both false false).bind fun (r6 : Bool) =>
        some (!r6)
       else some false).bind fun (v8 : Bool) =>
      if v8 = true then
        some (([] : (List (Arr5 api_Range))), true)
      else
        (F_packetset_cuts a0 [a1, a2]).bind fun (r12 : (List Int)) =>
        (F_packetset_canonical_of_both_L1 a0 a1 a2 a3 (F_packetset_canonical_of_both nr) r12 fuel ([] : (List packetset_group)) (0:Int) (0:Int)).bind fun (o177 : (((List packetset_group) × Int) ⊕ ((List (Arr5 api_Range)) × Bool))) =>
        match o177 with
        | .inl (v175, v176) =>
            if 0 ≤ v176 ∧ v176 ≤ (lim : Int) then
            (F_packetset_canonical_of_both_L2 a0 v175 fuel ([] : (List (Arr5 api_Range))) (0:Int)).bind fun (v322 : (List (Arr5 api_Range))) =>
              some (v322, true)
            else none
        | .inr r355 =>
            some r355
def F_packetset_combine_of_both (a0 : (List (Arr5 api_Range))) (a1 : (List (Arr5 api_Range))) : Option ((List (Arr5 api_Range)) × Int) :=
  (F_packetset_canonical_of_both fuel (0:Int) a0 a1 (4096:Int)).bind fun (r1 : ((List (Arr5 api_Range)) × Bool)) =>
  if (!r1.2) = true then
    some (([] : (List (Arr5 api_Range))), (3:Int))
  else
    some (r1.1, (0:Int))
def F_packetset_of_of_both (a0 : (List (Arr5 api_Range))) (a1 : (List (Arr5 api_Range))) : Option ((List (Arr5 api_Range)) × Int) :=
  (F_packetset_set a0).bind fun (r1 : ((List (Arr5 api_Range)) × Int)) =>
  if (r1.2 != (0:Int)) = true then
    some (([] : (List (Arr5 api_Range))), r1.2)
  else
    (F_packetset_set a1).bind fun (r3 : ((List (Arr5 api_Range)) × Int)) =>
    if (r3.2 != (0:Int)) = true then
      some (([] : (List (Arr5 api_Range))), r3.2)
    else
      (F_packetset_combine_of_both r1.1 r3.1).bind fun (r5 : ((List (Arr5 api_Range)) × Int)) =>
      some (r5.1, r5.2)
def F_packetset_Intersect (a0 : (List (Arr5 api_Range))) (a1 : (List (Arr5 api_Range))) : Option ((List (Arr5 api_Range)) × Int) :=
  (F_packetset_of_of_both a0 a1).bind fun (r1 : ((List (Arr5 api_Range)) × Int)) =>
  some (r1.1, r1.2)
def F_rewrite_ledger_intersect (a0 : rewrite_ledger) (a1 : (List (Arr5 api_Range))) (a2 : (List (Arr5 api_Range))) : Option ((List (Arr5 api_Range)) × rewrite_ledger) :=
  (F_packetset_Intersect a1 a2).bind fun (r1 : ((List (Arr5 api_Range)) × Int)) =>
  (F_rewrite_ledger_keep a0 r1.1 r1.2).bind fun (r3 : ((List (Arr5 api_Range)) × rewrite_ledger)) =>
  some (r3.1, r3.2)
def F_packetset_without (a0 : Bool) (a1 : Bool) : Option Bool :=
  (some a0).bind fun (b1 : Bool) =>
  some (b1 && (!a1))
def F_packetset_canonical_of_without_L1 (a0 : Int) (a1 : (List (Arr5 api_Range))) (a2 : (List (Arr5 api_Range))) (a3 : Int) (z0 : Int → (List (Arr5 api_Range)) → (List (Arr5 api_Range)) → Int → Option ((List (Arr5 api_Range)) × Bool)) (r12 : (List Int)) : Nat → (List packetset_group) → Int → Int → Option (((List packetset_group) × Int) ⊕ ((List (Arr5 api_Range)) × Bool))
  | 0, _, _, _ => none
  | n179+1, v94, v95, v96 =>
    if (decide ((IntKind.wrap .i64 (v96 + (1:Int))) < (List.length r12 : Int))) = true then
      ((idx r12 v96).bind fun (x220 : Int) =>
      (idx r12 (IntKind.wrap .i64 (v96 + (1:Int)))).bind fun (x222 : Int) =>
      (F_packetset_covering a1 a0 (IntKind.wrap .u32 x220)).bind fun (r224 : (List (Arr5 api_Range))) =>
      (F_packetset_covering a2 a0 (IntKind.wrap .u32 x220)).bind fun (r226 : (List (Arr5 api_Range))) =>
      (z0 (IntKind.wrap .i64 (a0 + (1:Int))) r224 r226 a3).bind fun (r228 : ((List (Arr5 api_Range)) × Bool)) =>
      if (!r228.2) = true then
        some (.inr (([] : (List (Arr5 api_Range))), false))
      else
        if ((List.length r228.1 : Int) == (0:Int)) = true then
          some (.inl (v94, v95))
        else
          (some (decide ((List.length v94 : Int) > (0:Int)))).bind fun (b230 : Bool) =>
          (if b230 = true then
            (idx v94 (IntKind.wrap .i64 ((List.length v94 : Int) - (1:Int)))).bind fun (x232 : packetset_group) =>
            some ((IntKind.wrap .u32 (x232.f_values.Hi + (1:Int))) == (IntKind.wrap .u32 x220))
           else some false).bind fun (v234 : Bool) =>
          (some v234).bind fun (b236 : Bool) =>
          (if b236 = true then
            (idx v94 (IntKind.wrap .i64 ((List.length v94 : Int) - (1:Int)))).bind fun (x238 : packetset_group) =>
            (F_slices_Equal_api_Box_api_Box x238.f_rest r228.1).bind fun (r240 : Bool) =>
            some r240
           else some false).bind fun (v242 : Bool) =>
          if v242 = true then
            (idx v94 (IntKind.wrap .i64 ((List.length v94 : Int) - (1:Int)))).bind fun (x249 : packetset_group) =>
            some (.inl ((List.set v94 (Int.toNat (IntKind.wrap .i64 ((List.length v94 : Int) - (1:Int)))) ({ x249 with f_values := ({ x249.f_values with Hi := (IntKind.wrap .u32 (IntKind.wrap .u64 (x222 - (1:Int)))) } : api_Range) } : packetset_group)), v95))
          else
            if List.length v94 + List.length [(packetset_group.mk (api_Range.mk (IntKind.wrap .u32 x220) (IntKind.wrap .u32 (IntKind.wrap .u64 (x222 - (1:Int))))) r228.1)] ≤ lim then
            if (decide ((IntKind.wrap .i64 (v95 + (List.length r228.1 : Int))) > a3)) = true then
              some (.inr (([] : (List (Arr5 api_Range))), false))
            else
              some (.inl ((v94 ++ [(packetset_group.mk (api_Range.mk (IntKind.wrap .u32 x220) (IntKind.wrap .u32 (IntKind.wrap .u64 (x222 - (1:Int))))) r228.1)]), (IntKind.wrap .i64 (v95 + (List.length r228.1 : Int)))))
            else none).bind fun (o218 : (((List packetset_group) × Int) ⊕ ((List (Arr5 api_Range)) × Bool))) =>
      match o218 with
      | .inl (v216, v217) =>
          F_packetset_canonical_of_without_L1 a0 a1 a2 a3 z0 r12 n179 v216 v217 (IntKind.wrap .i64 (v96 + (1:Int)))
      | .inr r256 =>
          some (.inr r256)
    else
      some (.inl (v94, v95))
def F_packetset_canonical_of_without_L3 (a0 : Int) (x325 : packetset_group) : Nat → (List (Arr5 api_Range)) → Int → Option (List (Arr5 api_Range))
  | 0, _, _ => none
  | n346+1, v335, v336 =>
    if (decide (v336 < (List.length x325.f_rest : Int))) = true then
      (idx x325.f_rest v336).bind fun (x347 : (Arr5 api_Range)) =>
      if 0 ≤ a0 ∧ a0 < 5 then
      if List.length v335 + List.length [(Arr5.set x347 a0 x325.f_values)] ≤ lim then
      F_packetset_canonical_of_without_L3 a0 x325 n346 (v335 ++ [(Arr5.set x347 a0 x325.f_values)]) (IntKind.wrap .i64 (v336 + (1:Int)))
      else none
      else none
    else
      some v335
def F_packetset_canonical_of_without_L2 (a0 : Int) (v175 : (List packetset_group)) : Nat → (List (Arr5 api_Range)) → Int → Option (List (Arr5 api_Range))
  | 0, _, _ => none
  | n324+1, v290, v291 =>
    if (decide (v291 < (List.length v175 : Int))) = true then
      (idx v175 v291).bind fun (x325 : packetset_group) =>
      (F_packetset_canonical_of_without_L3 a0 x325 fuel v290 (0:Int)).bind fun (v344 : (List (Arr5 api_Range))) =>
        F_packetset_canonical_of_without_L2 a0 v175 n324 v344 (IntKind.wrap .i64 (v291 + (1:Int)))
    else
      some v290
def F_packetset_canonical_of_without : Nat → Int → (List (Arr5 api_Range)) → (List (Arr5 api_Range)) → Int → Option ((List (Arr5 api_Range)) × Bool)
  | 0, _, _, _, _ => none
  | nr+1, a0, a1, a2, a3 =>
    if (a0 == (5:Int)) = true then
      (F_packetset_without (decide ((List.length a1 : Int) > (0:Int))) (decide ((List.length a2 : Int) > (0:Int)))).bind fun (r1 : Bool) =>
      if r1 = true then
        some ([(Arr5.mk z_api_Range z_api_Range z_api_Range z_api_Range z_api_Range)], true)
      else
        some (([] : (List (Arr5 api_Range))), true)
    else
      (some ((IntKind.wrap .i64 ((List.length a1 : Int) + (List.length a2 : Int))) == (0:Int))).bind fun (b4 : Bool) =>
      (if b4 = true then
        (F_packetset_without false false).bind fun (r6 : Bool) =>
        some (!r6)
       else some false).bind fun (v8 : Bool) =>
      if v8 = true then
        some (([] : (List (Arr5 api_Range))), true)
      else
        (F_packetset_cuts a0 [a1, a2]).bind fun (r12 : (List Int)) =>
        (F_packetset_canonical_of_without_L1 a0 a1 a2 a3 (F_packetset_canonical_of_without nr) r12 fuel ([] : (List packetset_group)) (0:Int) (0:Int)).bind fun (o177 : (((List packetset_group) × Int) ⊕ ((List (Arr5 api_Range)) × Bool))) =>
        match o177 with
        | .inl (v175, v176) =>
            if 0 ≤ v176 ∧ v176 ≤ (lim : Int) then
            (F_packetset_canonical_of_without_L2 a0 v175 fuel ([] : (List (Arr5 api_Range))) (0:Int)).bind fun (v322 : (List (Arr5 api_Range))) =>
              some (v322, true)
            else none
        | .inr r355 =>
            some r355
def F_packetset_combine_of_without (a0 : (List (Arr5 api_Range))) (a1 : (List (Arr5 api_Range))) : Option ((List (Arr5 api_Range)) × Int) :=
  (F_packetset_canonical_of_without fuel (0:Int) a0 a1 (4096:Int)).bind fun (r1 : ((List (Arr5 api_Range)) × Bool)) =>
  if (!r1.2) = true then
    some (([] : (List (Arr5 api_Range))), (3:Int))
  else
    some (r1.1, (0:Int))
def F_packetset_of_of_without (a0 : (List (Arr5 api_Range))) (a1 : (List (Arr5 api_Range))) : Option ((List (Arr5 api_Range)) × Int) :=
  (F_packetset_set a0).bind fun (r1 : ((List (Arr5 api_Range)) × Int)) =>
  if (r1.2 != (0:Int)) = true then
    some (([] : (List (Arr5 api_Range))), r1.2)
  else
    (F_packetset_set a1).bind fun (r3 : ((List (Arr5 api_Range)) × Int)) =>
    if (r3.2 != (0:Int)) = true then
      some (([] : (List (Arr5 api_Range))), r3.2)
    else
      (F_packetset_combine_of_without r1.1 r3.1).bind fun (r5 : ((List (Arr5 api_Range)) × Int)) =>
      some (r5.1, r5.2)
def F_packetset_Subtract (a0 : (List (Arr5 api_Range))) (a1 : (List (Arr5 api_Range))) : Option ((List (Arr5 api_Range)) × Int) :=
  (F_packetset_of_of_without a0 a1).bind fun (r1 : ((List (Arr5 api_Range)) × Int)) =>
  some (r1.1, r1.2)
def F_rewrite_ledger_subtract (a0 : rewrite_ledger) (a1 : (List (Arr5 api_Range))) (a2 : (List (Arr5 api_Range))) : Option ((List (Arr5 api_Range)) × rewrite_ledger) :=
  (F_packetset_Subtract a1 a2).bind fun (r1 : ((List (Arr5 api_Range)) × Int)) =>
  (F_rewrite_ledger_keep a0 r1.1 r1.2).bind fun (r3 : ((List (Arr5 api_Range)) × rewrite_ledger)) =>
  some (r3.1, r3.2)
def F_rewrite_ledger_parts_L1 (a1 : (List (Arr5 api_Range))) : Nat → rewrite_ledger → (List (List (Arr5 api_Range))) → (List (Arr5 api_Range)) → Int → Option (rewrite_ledger × (List (List (Arr5 api_Range))) × (List (Arr5 api_Range)))
  | 0, _, _, _, _ => none
  | n68+1, v31, v32, v33, v34 =>
    if (decide (v34 < (List.length a1 : Int))) = true then
      ((idx a1 v34).bind fun (x85 : (Arr5 api_Range)) =>
      (F_box_Valid x85).bind fun (r87 : Bool) =>
      if (!r87) = true then
        if List.length v32 + List.length [([] : (List (Arr5 api_Range)))] ≤ lim then
        some (v31, (v32 ++ [([] : (List (Arr5 api_Range)))]), v33)
        else none
      else
        (F_rewrite_ledger_intersect v31 v33 [x85]).bind fun (r90 : ((List (Arr5 api_Range)) × rewrite_ledger)) =>
        if List.length v32 + List.length [r90.1] ≤ lim then
        (F_rewrite_ledger_subtract r90.2 v33 [x85]).bind fun (r93 : ((List (Arr5 api_Range)) × rewrite_ledger)) =>
        some (r93.2, (v32 ++ [r90.1]), r93.1)
        else none).bind fun (o83 : (rewrite_ledger × (List (List (Arr5 api_Range))) × (List (Arr5 api_Range)))) =>
      match o83 with
      | (v80, v81, v82) =>
        F_rewrite_ledger_parts_L1 a1 n68 v80 v81 v82 (IntKind.wrap .i64 (v34 + (1:Int)))
    else
      some (v31, v32, v33)
def F_rewrite_ledger_parts (a0 : rewrite_ledger) (a1 : (List (Arr5 api_Range))) (a2 : (List (Arr5 api_Range))) : Option ((List (List (Arr5 api_Range))) × (List (Arr5 api_Range)) × rewrite_ledger) :=
  (F_rewrite_ledger_parts_L1 a1 fuel a0 ([] : (List (List (Arr5 api_Range)))) a2 (0:Int)).bind fun (o66 : (rewrite_ledger × (List (List (Arr5 api_Range))) × (List (Arr5 api_Range)))) =>
  match o66 with
  | (v63, v64, v65) =>
    some (v64, v65, v63)
def F_rewrite_shifted_L2 (a0 : api_Move) (a1 : (List (Arr5 api_Range))) (v83 : Int) : Nat → (List (Arr5 api_Range)) → Int → Option (List (Arr5 api_Range))
  | 0, _, _ => none
  | n219+1, v191, v192 =>
    if (decide (v192 < (5:Int))) = true then
      if 0 ≤ v192 ∧ v192 < 5 then
      if 0 ≤ v192 ∧ v192 < 5 then
      (idx a1 v83).bind fun (x222 : (Arr5 api_Range)) =>
      if 0 ≤ v192 ∧ v192 < 5 then
      (idx v191 v83).bind fun (x225 : (Arr5 api_Range)) =>
      if 0 ≤ v192 ∧ v192 < 5 then
      if 0 ≤ v192 ∧ v192 < 5 then
      (idx a1 v83).bind fun (x233 : (Arr5 api_Range)) =>
      if 0 ≤ v192 ∧ v192 < 5 then
      (idx (List.set v191 (Int.toNat v83) (Arr5.set x225 v192 ({ (Arr5.get x225 v192) with Lo := (IntKind.wrap .u32 ((Arr5.get a0.To v192).Lo + (IntKind.wrap .u32 ((Arr5.get x222 v192).Lo - (Arr5.get a0.From v192).Lo)))) } : api_Range))) v83).bind fun (x236 : (Arr5 api_Range)) =>
      if 0 ≤ v192 ∧ v192 < 5 then
      F_rewrite_shifted_L2 a0 a1 v83 n219 (List.set (List.set v191 (Int.toNat v83) (Arr5.set x225 v192 ({ (Arr5.get x225 v192) with Lo := (IntKind.wrap .u32 ((Arr5.get a0.To v192).Lo + (IntKind.wrap .u32 ((Arr5.get x222 v192).Lo - (Arr5.get a0.From v192).Lo)))) } : api_Range))) (Int.toNat v83) (Arr5.set x236 v192 ({ (Arr5.get x236 v192) with Hi := (IntKind.wrap .u32 ((Arr5.get a0.To v192).Lo + (IntKind.wrap .u32 ((Arr5.get x233 v192).Hi - (Arr5.get a0.From v192).Lo)))) } : api_Range))) (IntKind.wrap .i64 (v192 + (1:Int)))
      else none
      else none
      else none
      else none
      else none
      else none
      else none
    else
      some v191
def F_rewrite_shifted_L1 (a0 : api_Move) (a1 : (List (Arr5 api_Range))) : Nat → (List (Arr5 api_Range)) → Int → Option (List (Arr5 api_Range))
  | 0, _, _ => none
  | n165+1, v82, v83 =>
    if (decide (v83 < (List.length a1 : Int))) = true then
      (F_rewrite_shifted_L2 a0 a1 v83 fuel v82 (0:Int)).bind fun (v217 : (List (Arr5 api_Range))) =>
        F_rewrite_shifted_L1 a0 a1 n165 v217 (IntKind.wrap .i64 (v83 + (1:Int)))
    else
      some v82
def F_rewrite_shifted (a0 : api_Move) (a1 : (List (Arr5 api_Range))) : Option (List (Arr5 api_Range)) :=
  if List.length a1 ≤ lim then
  (F_rewrite_shifted_L1 a0 a1 fuel a1 (0:Int)).bind fun (v163 : (List (Arr5 api_Range))) =>
    some v163
  else none
def F_packetset_of_of_either (a0 : (List (Arr5 api_Range))) (a1 : (List (Arr5 api_Range))) : Option ((List (Arr5 api_Range)) × Int) :=
  (F_packetset_set a0).bind fun (r1 : ((List (Arr5 api_Range)) × Int)) =>
  if (r1.2 != (0:Int)) = true then
    some (([] : (List (Arr5 api_Range))), r1.2)
  else
    (F_packetset_set a1).bind fun (r3 : ((List (Arr5 api_Range)) × Int)) =>
    if (r3.2 != (0:Int)) = true then
      some (([] : (List (Arr5 api_Range))), r3.2)
    else
      (F_packetset_combine_of_either r1.1 r3.1).bind fun (r5 : ((List (Arr5 api_Range)) × Int)) =>
      some (r5.1, r5.2)
def F_packetset_Union (a0 : (List (Arr5 api_Range))) (a1 : (List (Arr5 api_Range))) : Option ((List (Arr5 api_Range)) × Int) :=
  (F_packetset_of_of_either a0 a1).bind fun (r1 : ((List (Arr5 api_Range)) × Int)) =>
  some (r1.1, r1.2)
def F_rewrite_ledger_union (a0 : rewrite_ledger) (a1 : (List (Arr5 api_Range))) (a2 : (List (Arr5 api_Range))) : Option ((List (Arr5 api_Range)) × rewrite_ledger) :=
  (F_packetset_Union a1 a2).bind fun (r1 : ((List (Arr5 api_Range)) × Int)) =>
  (F_rewrite_ledger_keep a0 r1.1 r1.2).bind fun (r3 : ((List (Arr5 api_Range)) × rewrite_ledger)) =>
  some (r3.1, r3.2)
def F_rewrite_ledger_result (a0 : rewrite_ledger) (a1 : (List (Arr5 api_Range))) : Option ((List (Arr5 api_Range)) × Int) :=
  if (a0.f_err != (0:Int)) = true then
    some (([] : (List (Arr5 api_Range))), a0.f_err)
  else
    if List.length a1 ≤ lim then
    some (a1, (0:Int))
    else none
def F_rewrite_Image_L1 (a0 : (List api_Move)) (r5 : ((List (List (Arr5 api_Range))) × (List (Arr5 api_Range)) × rewrite_ledger)) : Nat → rewrite_ledger → (List (Arr5 api_Range)) → Int → Option (rewrite_ledger × (List (Arr5 api_Range)))
  | 0, _, _, _ => none
  | n78+1, v40, v41, v42 =>
    if (decide (v42 < (List.length r5.1 : Int))) = true then
      ((idx r5.1 v42).bind fun (x96 : (List (Arr5 api_Range))) =>
      (idx a0 v42).bind fun (x98 : api_Move) =>
      (F_rewrite_validMove x98).bind fun (r100 : Bool) =>
      if r100 = true then
        (idx a0 v42).bind fun (x102 : api_Move) =>
        (F_rewrite_shifted x102 x96).bind fun (r104 : (List (Arr5 api_Range))) =>
        (F_rewrite_ledger_union v40 v41 r104).bind fun (r106 : ((List (Arr5 api_Range)) × rewrite_ledger)) =>
        some (r106.2, r106.1)
      else
        some (v40, v41)).bind fun (o94 : (rewrite_ledger × (List (Arr5 api_Range)))) =>
      match o94 with
      | (v92, v93) =>
        F_rewrite_Image_L1 a0 r5 n78 v92 v93 (IntKind.wrap .i64 (v42 + (1:Int)))
    else
      some (v40, v41)
def F_rewrite_Image (a0 : (List api_Move)) (a1 : (List (Arr5 api_Range))) : Option ((List (Arr5 api_Range)) × Int) :=
  (F_rewrite_from a0).bind fun (r1 : (List (Arr5 api_Range))) =>
  (F_rewrite_ledger_make z_rewrite_ledger a1).bind fun (r3 : ((List (Arr5 api_Range)) × rewrite_ledger)) =>
  (F_rewrite_ledger_parts r3.2 r1 r3.1).bind fun (r5 : ((List (List (Arr5 api_Range))) × (List (Arr5 api_Range)) × rewrite_ledger)) =>
  (F_rewrite_Image_L1 a0 r5 fuel r5.2.2 ([] : (List (Arr5 api_Range))) (0:Int)).bind fun (o76 : (rewrite_ledger × (List (Arr5 api_Range)))) =>
  match o76 with
  | (v74, v75) =>
    (F_rewrite_ledger_union v74 v75 r5.2.1).bind fun (r110 : ((List (Arr5 api_Range)) × rewrite_ledger)) =>
    (F_rewrite_ledger_result r110.2 r110.1).bind fun (r112 : ((List (Arr5 api_Range)) × Int)) =>
    some (r112.1, r112.2)
def F_rewrite_Injective_L1 (a0 : (List api_Move)) (r7 : ((List (List (Arr5 api_Range))) × (List (Arr5 api_Range)) × rewrite_ledger)) : Nat → (List (List (Arr5 api_Range))) → Int → Option (List (List (Arr5 api_Range)))
  | 0, _, _ => none
  | n68+1, v37, v38 =>
    if (decide (v38 < (List.length r7.1 : Int))) = true then
      ((idx r7.1 v38).bind fun (x83 : (List (Arr5 api_Range))) =>
      (idx a0 v38).bind fun (x85 : api_Move) =>
      (F_rewrite_validMove x85).bind fun (r87 : Bool) =>
      if r87 = true then
        (idx a0 v38).bind fun (x89 : api_Move) =>
        (F_rewrite_shifted x89 x83).bind fun (r91 : (List (Arr5 api_Range))) =>
        if List.length v37 + List.length [r91] ≤ lim then
        some (v37 ++ [r91])
        else none
      else
        some v37).bind fun (v81 : (List (List (Arr5 api_Range)))) =>
        F_rewrite_Injective_L1 a0 r7 n68 v81 (IntKind.wrap .i64 (v38 + (1:Int)))
    else
      some v37
def F_rewrite_Injective_L3 (v124 : (List (List (Arr5 api_Range)))) (v125 : Int) : Nat → Int → Option (Unit ⊕ (Bool × Int))
  | 0, _ => none
  | n171+1, v158 =>
    if (decide (v158 < (List.length (List.drop (Int.toNat (0:Int)) (List.take (Int.toNat v125) v124)) : Int))) = true then
      (idx (List.drop (Int.toNat (0:Int)) (List.take (Int.toNat v125) v124)) v158).bind fun (x172 : (List (Arr5 api_Range))) =>
      (idx v124 v125).bind fun (x174 : (List (Arr5 api_Range))) =>
      (F_packetset_Intersect x174 x172).bind fun (r176 : ((List (Arr5 api_Range)) × Int)) =>
      (some (r176.2 != (0:Int))).bind fun (b178 : Bool) =>
      if (b178 || (decide ((List.length r176.1 : Int) > (0:Int)))) = true then
        some (.inr (false, (0:Int)))
      else
        F_rewrite_Injective_L3 v124 v125 n171 (IntKind.wrap .i64 (v158 + (1:Int)))
    else
      some (.inl ())
def F_rewrite_Injective_L2 (v66 : (List (List (Arr5 api_Range)))) : Nat → (List (List (Arr5 api_Range))) → Int → Option ((List (List (Arr5 api_Range))) ⊕ (Bool × Int))
  | 0, _, _ => none
  | n156+1, v124, v125 =>
    if (decide (v125 < (List.length v66 : Int))) = true then
      if 0 ≤ (0:Int) ∧ (0:Int) ≤ v125 ∧ v125 ≤ (List.length v124 : Int) then
      (F_rewrite_Injective_L3 v124 v125 fuel (0:Int)).bind fun (o169 : (Unit ⊕ (Bool × Int))) =>
      match o169 with
      | .inl () =>
          F_rewrite_Injective_L2 v66 n156 v124 (IntKind.wrap .i64 (v125 + (1:Int)))
      | .inr r182 =>
          some (.inr r182)
      else none
    else
      some (.inl v124)
def F_rewrite_Injective (a0 : (List api_Move)) (a1 : (List (Arr5 api_Range))) : Option (Bool × Int) :=
  (F_rewrite_Image a0 a1).bind fun (r1 : ((List (Arr5 api_Range)) × Int)) =>
  if (r1.2 != (0:Int)) = true then
    some (false, r1.2)
  else
    (F_rewrite_from a0).bind fun (r3 : (List (Arr5 api_Range))) =>
    (F_rewrite_ledger_make z_rewrite_ledger a1).bind fun (r5 : ((List (Arr5 api_Range)) × rewrite_ledger)) =>
    (F_rewrite_ledger_parts r5.2 r3 r5.1).bind fun (r7 : ((List (List (Arr5 api_Range))) × (List (Arr5 api_Range)) × rewrite_ledger)) =>
    (F_rewrite_Injective_L1 a0 r7 fuel [r7.2.1] (0:Int)).bind fun (v66 : (List (List (Arr5 api_Range)))) =>
      (F_rewrite_Injective_L2 v66 fuel v66 (0:Int)).bind fun (o154 : ((List (List (Arr5 api_Range))) ⊕ (Bool × Int))) =>
      match o154 with
      | .inl _ =>
          some (true, (0:Int))
      | .inr r184 =>
          some r184
def F_nsgref3_Point (a0 : api_Header) : Option (Arr5 Int) :=
  some (Arr5.mk a0.Src a0.Dst (IntKind.wrap .u32 a0.Proto) (IntKind.wrap .u32 a0.SrcPort) (IntKind.wrap .u32 a0.DstPort))
def F_nsgref3_Contains_L1 (a0 : (Arr5 api_Range)) (r1 : (Arr5 Int)) : Nat → Int → Option (Unit ⊕ Bool)
  | 0, _ => none
  | n18+1, v3 =>
    if (decide (v3 < (5:Int))) = true then
      if 0 ≤ v3 ∧ v3 < 5 then
      if 0 ≤ v3 ∧ v3 < 5 then
      (some (decide ((Arr5.get r1 v3) < (Arr5.get a0 v3).Lo))).bind fun (b21 : Bool) =>
      (if b21 = true then some true else
        if 0 ≤ v3 ∧ v3 < 5 then
        if 0 ≤ v3 ∧ v3 < 5 then
        some (decide ((Arr5.get r1 v3) > (Arr5.get a0 v3).Hi))
        else none
        else none
       ).bind fun (v25 : Bool) =>
      if v25 = true then
        some (.inr false)
      else
        F_nsgref3_Contains_L1 a0 r1 n18 (IntKind.wrap .i64 (v3 + (1:Int)))
      else none
      else none
    else
      some (.inl ())
def F_nsgref3_Contains (a0 : (Arr5 api_Range)) (a1 : api_Header) : Option Bool :=
  (F_nsgref3_Point a1).bind fun (r1 : (Arr5 Int)) =>
  (F_nsgref3_Contains_L1 a0 r1 fuel (0:Int)).bind fun (o16 : (Unit ⊕ Bool)) =>
  match o16 with
  | .inl () =>
      (F_nsgref3_Valid a0).bind fun (r31 : Bool) =>
      some r31
  | .inr r33 =>
      some r33
def F_nsgref4_Contains_L1 (a0 : (List (Arr5 api_Range))) (a1 : api_Header) : Nat → Int → Option (Unit ⊕ Bool)
  | 0, _ => none
  | n10+1, v1 =>
    if (decide (v1 < (List.length a0 : Int))) = true then
      (idx a0 v1).bind fun (x11 : (Arr5 api_Range)) =>
      (F_nsgref3_Contains x11 a1).bind fun (r13 : Bool) =>
      if r13 = true then
        some (.inr true)
      else
        F_nsgref4_Contains_L1 a0 a1 n10 (IntKind.wrap .i64 (v1 + (1:Int)))
    else
      some (.inl ())
def F_nsgref4_Contains (a0 : (List (Arr5 api_Range))) (a1 : api_Header) : Option Bool :=
  (F_nsgref4_Contains_L1 a0 a1 fuel (0:Int)).bind fun (o8 : (Unit ⊕ Bool)) =>
  match o8 with
  | .inl () =>
      some false
  | .inr r17 =>
      some r17
def F_nsgref3_Of_L1 (r1 : (Arr5 Int)) : Nat → (Arr5 api_Range) → Int → Option (Arr5 api_Range)
  | 0, _, _ => none
  | n24+1, v12, v13 =>
    if (decide (v13 < (5:Int))) = true then
      if 0 ≤ v13 ∧ v13 < 5 then
      if 0 ≤ v13 ∧ v13 < 5 then
      if 0 ≤ v13 ∧ v13 < 5 then
      F_nsgref3_Of_L1 r1 n24 (Arr5.set v12 v13 (api_Range.mk (Arr5.get r1 v13) (Arr5.get r1 v13))) (IntKind.wrap .i64 (v13 + (1:Int)))
      else none
      else none
      else none
    else
      some v12
def F_nsgref3_Of (a0 : api_Header) : Option (Arr5 api_Range) :=
  (F_nsgref3_Point a0).bind fun (r1 : (Arr5 Int)) =>
  (F_nsgref3_Of_L1 r1 fuel z_a5_api_Range (0:Int)).bind fun (v22 : (Arr5 api_Range)) =>
    some v22
def F_nsglaw6_RewriteInjective (a0 : (List Int)) (a1 : api_Header) (a2 : api_Header) : Option Bool :=
  (F_nsggen_New a0).bind fun (r1 : nsggen_Tape) =>
  (F_nsggen_Tape_Moves r1 (3:Int) true).bind fun (r3 : ((List api_Move) × nsggen_Tape)) =>
  (F_nsggen_Tape_Boxes r3.2 (3:Int) true).bind fun (r5 : ((List (Arr5 api_Range)) × nsggen_Tape)) =>
  (F_rewrite_Injective r3.1 r5.1).bind fun (r7 : (Bool × Int)) =>
  if (r7.2 != (0:Int)) = true then
    (some (r7.2 == (3:Int))).bind fun (b9 : Bool) =>
    (some (b9 && (!r7.1))).bind fun (b11 : Bool) =>
    (if b11 = true then
      (F_nsglaw6_sane).bind fun (r13 : Bool) =>
      some r13
     else some false).bind fun (v15 : Bool) =>
    some v15
  else
    ((F_nsggen_Tape_Next r5.2 (2:Int)).bind fun (r36 : (Int × nsggen_Tape)) =>
    if (r36.1 == (0:Int)) = true then
      (F_nsglaw6_ends r3.1).bind fun (r38 : (List (Arr5 api_Range))) =>
      (F_nsggen_Tape_Near r36.2 r38).bind fun (r40 : (api_Header × nsggen_Tape)) =>
      (F_nsglaw6_ends r3.1).bind fun (r42 : (List (Arr5 api_Range))) =>
      (F_nsggen_Tape_Near r40.2 r42).bind fun (r44 : (api_Header × nsggen_Tape)) =>
      some (r40.1, r44.1, r44.2)
    else
      some (a1, a2, r36.2)).bind fun (o34 : (api_Header × api_Header × nsggen_Tape)) =>
    match o34 with
    | (v31, v32, _) =>
      (F_nsgref4_Contains r5.1 v31).bind fun (r47 : Bool) =>
      (some r47).bind fun (b49 : Bool) =>
      (if b49 = true then
        (F_nsgref4_Contains r5.1 v32).bind fun (r51 : Bool) =>
        some r51
       else some false).bind fun (v53 : Bool) =>
      (some v53).bind fun (b55 : Bool) =>
      (some (b55 && (!(eq_api_Header v31 v32)))).bind fun (b57 : Bool) =>
      (if b57 = true then
        (F_rewrite_Apply r3.1 v31).bind fun (r59 : api_Header) =>
        (F_rewrite_Apply r3.1 v32).bind fun (r61 : api_Header) =>
        some (eq_api_Header r59 r61)
       else some false).bind fun (v63 : Bool) =>
      (some v63).bind fun (b65 : Bool) =>
      if (b65 && r7.1) = true then
        some false
      else
        (F_nsgref3_Of v31).bind fun (r73 : (Arr5 api_Range)) =>
        (F_rewrite_Injective r3.1 [r73]).bind fun (r75 : (Bool × Int)) =>
        (some r75.1).bind fun (b77 : Bool) =>
        (some (b77 && (r75.2 == (0:Int)))).bind fun (b79 : Bool) =>
        (if b79 = true then
          (F_nsglaw6_sane).bind fun (r81 : Bool) =>
          some r81
         else some false).bind fun (v83 : Bool) =>
        some v83
def F_box_Full_L1 : Nat → (Arr5 api_Range) → Int → Option (Arr5 api_Range)
  | 0, _, _ => none
  | n16+1, v7, v8 =>
    if (decide (v8 < (5:Int))) = true then
      if 0 ≤ v8 ∧ v8 < 5 then
      if 0 ≤ v8 ∧ v8 < 5 then
      F_box_Full_L1 n16 (Arr5.set v7 v8 ({ (Arr5.get v7 v8) with Hi := (Arr5.get glob_box_tops v8) } : api_Range)) (IntKind.wrap .i64 (v8 + (1:Int)))
      else none
      else none
    else
      some v7
def F_box_Full : Option (Arr5 api_Range) :=
  (F_box_Full_L1 fuel z_a5_api_Range (0:Int)).bind fun (v14 : (Arr5 api_Range)) =>
    some v14
def F_rewrite_Preimage_L1 (a0 : (List api_Move)) (r1 : ((List (Arr5 api_Range)) × rewrite_ledger)) : Nat → rewrite_ledger → (List (Arr5 api_Range)) → (List (Arr5 api_Range)) → Int → Option (rewrite_ledger × (List (Arr5 api_Range)) × (List (Arr5 api_Range)))
  | 0, _, _, _, _ => none
  | n105+1, v52, v53, v54, v55 =>
    if (decide (v55 < (List.length a0 : Int))) = true then
      ((idx a0 v55).bind fun (x130 : api_Move) =>
      (F_rewrite_validMove x130).bind fun (r132 : Bool) =>
      if (!r132) = true then
        some (v52, v53, v54)
      else
        (F_rewrite_ledger_intersect v52 v54 [x130.From]).bind fun (r134 : ((List (Arr5 api_Range)) × rewrite_ledger)) =>
        (F_rewrite_turned x130).bind fun (r136 : api_Move) =>
        (F_rewrite_ledger_intersect r134.2 r1.1 [x130.To]).bind fun (r138 : ((List (Arr5 api_Range)) × rewrite_ledger)) =>
        (F_rewrite_shifted r136 r138.1).bind fun (r140 : (List (Arr5 api_Range))) =>
        (F_rewrite_ledger_intersect r138.2 r134.1 r140).bind fun (r142 : ((List (Arr5 api_Range)) × rewrite_ledger)) =>
        (F_rewrite_ledger_union r142.2 v53 r142.1).bind fun (r144 : ((List (Arr5 api_Range)) × rewrite_ledger)) =>
        (F_rewrite_ledger_subtract r144.2 v54 [x130.From]).bind fun (r146 : ((List (Arr5 api_Range)) × rewrite_ledger)) =>
        some (r146.2, r144.1, r146.1)).bind fun (o128 : (rewrite_ledger × (List (Arr5 api_Range)) × (List (Arr5 api_Range)))) =>
      match o128 with
      | (v125, v126, v127) =>
        F_rewrite_Preimage_L1 a0 r1 n105 v125 v126 v127 (IntKind.wrap .i64 (v55 + (1:Int)))
    else
      some (v52, v53, v54)
def F_rewrite_Preimage (a0 : (List api_Move)) (a1 : (List (Arr5 api_Range))) : Option ((List (Arr5 api_Range)) × Int) :=
  (F_rewrite_ledger_make z_rewrite_ledger a1).bind fun (r1 : ((List (Arr5 api_Range)) × rewrite_ledger)) =>
  (F_box_Full).bind fun (r3 : (Arr5 api_Range)) =>
  (F_rewrite_Preimage_L1 a0 r1 fuel r1.2 ([] : (List (Arr5 api_Range))) [r3] (0:Int)).bind fun (o103 : (rewrite_ledger × (List (Arr5 api_Range)) × (List (Arr5 api_Range)))) =>
  match o103 with
  | (v100, v101, v102) =>
    (F_rewrite_ledger_intersect v100 v102 r1.1).bind fun (r150 : ((List (Arr5 api_Range)) × rewrite_ledger)) =>
    (F_rewrite_ledger_union r150.2 v101 r150.1).bind fun (r152 : ((List (Arr5 api_Range)) × rewrite_ledger)) =>
    (F_rewrite_ledger_result r152.2 r152.1).bind fun (r154 : ((List (Arr5 api_Range)) × Int)) =>
    some (r154.1, r154.2)
def F_nsglaw6_RewritePoints_L1 (a1 : api_Header) (r3 : ((List api_Move) × nsggen_Tape)) (r5 : ((List (Arr5 api_Range)) × nsggen_Tape)) (r7 : ((List (Arr5 api_Range)) × Int)) (r9 : ((List (Arr5 api_Range)) × Int)) (r24 : (api_Header × nsggen_Tape)) (r28 : (api_Header × nsggen_Tape)) (r32 : (api_Header × nsggen_Tape)) : Nat → Int → Option (Unit ⊕ Bool)
  | 0, _ => none
  | n68+1, v34 =>
    if (decide (v34 < (List.length [a1, r24.1, r28.1, r32.1] : Int))) = true then
      (idx [a1, r24.1, r28.1, r32.1] v34).bind fun (x69 : api_Header) =>
      (F_rewrite_Apply r3.1 x69).bind fun (r71 : api_Header) =>
      (idx [a1, r24.1, r28.1, r32.1] v34).bind fun (x73 : api_Header) =>
      (F_nsgref4_Contains r5.1 x73).bind fun (r75 : Bool) =>
      (some r75).bind fun (b77 : Bool) =>
      (if b77 = true then
        (F_nsgref4_Contains r7.1 r71).bind fun (r79 : Bool) =>
        some (!r79)
       else some false).bind fun (v81 : Bool) =>
      (some v81).bind fun (b83 : Bool) =>
      (if b83 = true then some true else
        (idx [a1, r24.1, r28.1, r32.1] v34).bind fun (x85 : api_Header) =>
        (F_nsgref4_Contains r9.1 x85).bind fun (r87 : Bool) =>
        (F_nsgref4_Contains r5.1 r71).bind fun (r89 : Bool) =>
        some (!(r87 == r89))
       ).bind fun (v91 : Bool) =>
      if v91 = true then
        some (.inr false)
      else
        F_nsglaw6_RewritePoints_L1 a1 r3 r5 r7 r9 r24 r28 r32 n68 (IntKind.wrap .i64 (v34 + (1:Int)))
    else
      some (.inl ())
def F_nsglaw6_RewritePoints (a0 : (List Int)) (a1 : api_Header) : Option Bool :=
  (F_nsggen_New a0).bind fun (r1 : nsggen_Tape) =>
  (F_nsggen_Tape_Moves r1 (3:Int) true).bind fun (r3 : ((List api_Move) × nsggen_Tape)) =>
  (F_nsggen_Tape_Boxes r3.2 (3:Int) true).bind fun (r5 : ((List (Arr5 api_Range)) × nsggen_Tape)) =>
  (F_rewrite_Image r3.1 r5.1).bind fun (r7 : ((List (Arr5 api_Range)) × Int)) =>
  (F_rewrite_Preimage r3.1 r5.1).bind fun (r9 : ((List (Arr5 api_Range)) × Int)) =>
  (some (r7.2 != (0:Int))).bind fun (b11 : Bool) =>
  if (b11 || (r9.2 != (0:Int))) = true then
    (some (r7.2 == (3:Int))).bind fun (b13 : Bool) =>
    (some (b13 || (r9.2 == (3:Int)))).bind fun (b15 : Bool) =>
    (if b15 = true then
      (F_nsglaw6_sane).bind fun (r17 : Bool) =>
      some r17
     else some false).bind fun (v19 : Bool) =>
    some v19
  else
    (F_nsggen_Tape_Near r5.2 r5.1).bind fun (r24 : (api_Header × nsggen_Tape)) =>
    (F_nsglaw6_ends r3.1).bind fun (r26 : (List (Arr5 api_Range))) =>
    (F_nsggen_Tape_Near r24.2 r26).bind fun (r28 : (api_Header × nsggen_Tape)) =>
    (F_nsglaw6_ends r3.1).bind fun (r30 : (List (Arr5 api_Range))) =>
    (F_nsggen_Tape_Near r28.2 r30).bind fun (r32 : (api_Header × nsggen_Tape)) =>
    (F_nsglaw6_RewritePoints_L1 a1 r3 r5 r7 r9 r24 r28 r32 fuel (0:Int)).bind fun (o66 : (Unit ⊕ Bool)) =>
    match o66 with
    | .inl () =>
        (F_nsglaw6_sane).bind fun (r100 : Bool) =>
        some r100
    | .inr r102 =>
        some r102

end Go.AM

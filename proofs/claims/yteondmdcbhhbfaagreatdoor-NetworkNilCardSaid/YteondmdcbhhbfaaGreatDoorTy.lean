/- Printed by gen.py: the types of the program, as plain types. -/
import Derived.Test.YteondmdcbhhbfaaGreatDoorBC
set_option maxRecDepth 100000
namespace Go.AM
open Go
structure Arr5 (α : Type) where
  x0 : α
  x1 : α
  x2 : α
  x3 : α
  x4 : α
def Arr5.get {α : Type} (a : Arr5 α) (i : Int) : α := if i = 0 then a.x0 else if i = 1 then a.x1 else if i = 2 then a.x2 else if i = 3 then a.x3 else a.x4
def Arr5.set {α : Type} (a : Arr5 α) (i : Int) (v : α) : Arr5 α := if i = 0 then { a with x0 := v } else if i = 1 then { a with x1 := v } else if i = 2 then { a with x2 := v } else if i = 3 then { a with x3 := v } else { a with x4 := v }
def row_a5_u32 (x : (Arr5 Int)) : List PV := [.sc (.int .u32 x.x0), .sc (.int .u32 x.x1), .sc (.int .u32 x.x2), .sc (.int .u32 x.x3), .sc (.int .u32 x.x4)]
def ok_a5_u32 (x : (Arr5 Int)) : Prop := ok_u32 x.x0 ∧ ok_u32 x.x1 ∧ ok_u32 x.x2 ∧ ok_u32 x.x3 ∧ ok_u32 x.x4 ∧ True
def vs_a5_u32 (x : (Arr5 Int)) : List Value := [.int .u32 x.x0, .int .u32 x.x1, .int .u32 x.x2, .int .u32 x.x3, .int .u32 x.x4]
def pv_a5_u32 (x : (Arr5 Int)) : PV := .sc (.agg ⟨vs_a5_u32 x⟩)
def eq_a5_u32 (x y : (Arr5 Int)) : Bool := ((x.x0 == y.x0) && ((x.x1 == y.x1) && ((x.x2 == y.x2) && ((x.x3 == y.x3) && ((x.x4 == y.x4) && true)))))
def z_a5_u32 : (Arr5 Int) := Arr5.mk (0:Int) (0:Int) (0:Int) (0:Int) (0:Int)
def row_s_u8 (x : (List Int)) : List PV := [.sl 1 (List.map row_u8 x)]
def ok_s_u8 (x : (List Int)) : Prop := x.length ≤ 9223372036854775807 ∧ ∀ y ∈ x, ok_u8 y
def glob_box_tops : (Arr5 Int) := Arr5.mk 4294967295 4294967295 255 65535 65535
end Go.AM

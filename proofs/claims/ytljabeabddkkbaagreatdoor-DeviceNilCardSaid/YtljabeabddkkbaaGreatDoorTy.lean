/- Printed by gen.py: the types of the program, as plain types. -/
import Derived.Test.YtljabeabddkkbaaGreatDoorBC
set_option maxRecDepth 100000
namespace Go.AM
open Go
structure Arr5 (α : Type) where
  x0 : α
  x1 : α
  x2 : α
  x3 : α
  x4 : α
def Arr5.get {α : Type} (a : Arr5 α) (i : Int) : α := if i = 0 then a.x0 else if i = 1 then a.x1 else if i = 2 then a.x2 else if i = 3 then a.x3 else a.x4
def Arr5.set {α : Type} (a : Arr5 α) (i : Int) (v : α) : Arr5 α := if i = 0 then { a with x0 := v } else if i = 1 then { a with x1 := v } else if i = 2 then { a with x2 := v } else if i = 3 then { a with x3 := v } else { a with x4 := v }
def row_a5_u32 (x : (Arr5 Int)) : List PV := [.sc (.int .u32 x.x0), .sc (.int .u32 x.x1), .sc (.int .u32 x.x2), .sc (.int .u32 x.x3), .sc (.int .u32 x.x4)]
def ok_a5_u32 (x : (Arr5 Int)) : Prop := ok_u32 x.x0 ∧ ok_u32 x.x1 ∧ ok_u32 x.x2 ∧ ok_u32 x.x3 ∧ ok_u32 x.x4 ∧ True
def vs_a5_u32 (x : (Arr5 Int)) : List Value := [.int .u32 x.x0, .int .u32 x.x1, .int .u32 x.x2, .int .u32 x.x3, .int .u32 x.x4]
def pv_a5_u32 (x : (Arr5 Int)) : PV := .sc (.agg ⟨vs_a5_u32 x⟩)
def eq_a5_u32 (x y : (Arr5 Int)) : Bool := ((x.x0 == y.x0) && ((x.x1 == y.x1) && ((x.x2 == y.x2) && ((x.x3 == y.x3) && ((x.x4 == y.x4) && true)))))
def z_a5_u32 : (Arr5 Int) := Arr5.mk (0:Int) (0:Int) (0:Int) (0:Int) (0:Int)
def row_s_u8 (x : (List Int)) : List PV := [.sl 1 (List.map row_u8 x)]
def ok_s_u8 (x : (List Int)) : Prop := x.length ≤ 9223372036854775807 ∧ ∀ y ∈ x, ok_u8 y
structure api_Frame where
  Label : Int
  Class : ByteArray
  Return : Bool
  Packet : (List Int)
def row_api_Frame (x : api_Frame) : List PV := [.sc (.int .i64 x.Label), .sc (.string x.Class), .sc (.bool x.Return), .sl 1 (List.map row_u8 x.Packet)]
def ok_api_Frame (x : api_Frame) : Prop := ok_i64 x.Label ∧ ok_str x.Class ∧ ok_bool x.Return ∧ ok_s_u8 x.Packet ∧ True
def pv_api_Frame (x : api_Frame) : PV := .agg (row_api_Frame x)
def z_api_Frame : api_Frame := api_Frame.mk (0:Int) ByteArray.empty false ([] : (List Int))
structure api_Device where
  Name : ByteArray
  Capacity : Int
  Ranges : Bool
  Volatile : Bool
  Class : ByteArray
def row_api_Device (x : api_Device) : List PV := [.sc (.string x.Name), .sc (.int .i64 x.Capacity), .sc (.bool x.Ranges), .sc (.bool x.Volatile), .sc (.string x.Class)]
def ok_api_Device (x : api_Device) : Prop := ok_str x.Name ∧ ok_i64 x.Capacity ∧ ok_bool x.Ranges ∧ ok_bool x.Volatile ∧ ok_str x.Class ∧ True
def vs_api_Device (x : api_Device) : List Value := [.string x.Name, .int .i64 x.Capacity, .bool x.Ranges, .bool x.Volatile, .string x.Class]
def pv_api_Device (x : api_Device) : PV := .sc (.agg ⟨vs_api_Device x⟩)
def eq_api_Device (x y : api_Device) : Bool := ((x.Name.toList == y.Name.toList) && ((x.Capacity == y.Capacity) && ((x.Ranges == y.Ranges) && ((x.Volatile == y.Volatile) && ((x.Class.toList == y.Class.toList) && true)))))
def z_api_Device : api_Device := api_Device.mk ByteArray.empty (0:Int) false false ByteArray.empty
def row_s_api_Device (x : (List api_Device)) : List PV := [.sl 5 (List.map row_api_Device x)]
def ok_s_api_Device (x : (List api_Device)) : Prop := x.length ≤ 9223372036854775807 ∧ ∀ y ∈ x, ok_api_Device y
structure api_Link where
  A : Int
  B : Int
  Cost : Int
def row_api_Link (x : api_Link) : List PV := [.sc (.int .i64 x.A), .sc (.int .i64 x.B), .sc (.int .i64 x.Cost)]
def ok_api_Link (x : api_Link) : Prop := ok_i64 x.A ∧ ok_i64 x.B ∧ ok_i64 x.Cost ∧ True
def vs_api_Link (x : api_Link) : List Value := [.int .i64 x.A, .int .i64 x.B, .int .i64 x.Cost]
def pv_api_Link (x : api_Link) : PV := .sc (.agg ⟨vs_api_Link x⟩)
def eq_api_Link (x y : api_Link) : Bool := ((x.A == y.A) && ((x.B == y.B) && ((x.Cost == y.Cost) && true)))
def z_api_Link : api_Link := api_Link.mk (0:Int) (0:Int) (0:Int)
def row_s_api_Link (x : (List api_Link)) : List PV := [.sl 3 (List.map row_api_Link x)]
def ok_s_api_Link (x : (List api_Link)) : Prop := x.length ≤ 9223372036854775807 ∧ ∀ y ∈ x, ok_api_Link y
structure api_Prefix where
  Addr : Int
  Bits : Int
def row_api_Prefix (x : api_Prefix) : List PV := [.sc (.int .u32 x.Addr), .sc (.int .i64 x.Bits)]
def ok_api_Prefix (x : api_Prefix) : Prop := ok_u32 x.Addr ∧ ok_i64 x.Bits ∧ True
def vs_api_Prefix (x : api_Prefix) : List Value := [.int .u32 x.Addr, .int .i64 x.Bits]
def pv_api_Prefix (x : api_Prefix) : PV := .sc (.agg ⟨vs_api_Prefix x⟩)
def eq_api_Prefix (x y : api_Prefix) : Bool := ((x.Addr == y.Addr) && ((x.Bits == y.Bits) && true))
def z_api_Prefix : api_Prefix := api_Prefix.mk (0:Int) (0:Int)
structure api_Edge where
  Name : ByteArray
  Device : Int
  Zone : ByteArray
  Prefix : api_Prefix
  Planned : Bool
def row_api_Edge (x : api_Edge) : List PV := [.sc (.string x.Name), .sc (.int .i64 x.Device), .sc (.string x.Zone), .sc (.int .u32 x.Prefix.Addr), .sc (.int .i64 x.Prefix.Bits), .sc (.bool x.Planned)]
def ok_api_Edge (x : api_Edge) : Prop := ok_str x.Name ∧ ok_i64 x.Device ∧ ok_str x.Zone ∧ ok_api_Prefix x.Prefix ∧ ok_bool x.Planned ∧ True
def vs_api_Edge (x : api_Edge) : List Value := [.string x.Name, .int .i64 x.Device, .string x.Zone, .int .u32 x.Prefix.Addr, .int .i64 x.Prefix.Bits, .bool x.Planned]
def pv_api_Edge (x : api_Edge) : PV := .sc (.agg ⟨vs_api_Edge x⟩)
def eq_api_Edge (x y : api_Edge) : Bool := ((x.Name.toList == y.Name.toList) && ((x.Device == y.Device) && ((x.Zone.toList == y.Zone.toList) && ((eq_api_Prefix x.Prefix y.Prefix) && ((x.Planned == y.Planned) && true)))))
def z_api_Edge : api_Edge := api_Edge.mk ByteArray.empty (0:Int) ByteArray.empty z_api_Prefix false
def row_s_api_Edge (x : (List api_Edge)) : List PV := [.sl 6 (List.map row_api_Edge x)]
def ok_s_api_Edge (x : (List api_Edge)) : Prop := x.length ≤ 9223372036854775807 ∧ ∀ y ∈ x, ok_api_Edge y
def row_s_api_Prefix (x : (List api_Prefix)) : List PV := [.sl 2 (List.map row_api_Prefix x)]
def ok_s_api_Prefix (x : (List api_Prefix)) : Prop := x.length ≤ 9223372036854775807 ∧ ∀ y ∈ x, ok_api_Prefix y
structure api_Topology where
  Devices : (List api_Device)
  Links : (List api_Link)
  Edges : (List api_Edge)
  Pools : (List api_Prefix)
  Tolerate : Int
def row_api_Topology (x : api_Topology) : List PV := [.sl 5 (List.map row_api_Device x.Devices), .sl 3 (List.map row_api_Link x.Links), .sl 6 (List.map row_api_Edge x.Edges), .sl 2 (List.map row_api_Prefix x.Pools), .sc (.int .i64 x.Tolerate)]
def ok_api_Topology (x : api_Topology) : Prop := ok_s_api_Device x.Devices ∧ ok_s_api_Link x.Links ∧ ok_s_api_Edge x.Edges ∧ ok_s_api_Prefix x.Pools ∧ ok_i64 x.Tolerate ∧ True
def pv_api_Topology (x : api_Topology) : PV := .agg (row_api_Topology x)
def z_api_Topology : api_Topology := api_Topology.mk ([] : (List api_Device)) ([] : (List api_Link)) ([] : (List api_Edge)) ([] : (List api_Prefix)) (0:Int)
def row_s_i64 (x : (List Int)) : List PV := [.sl 1 (List.map row_i64 x)]
def ok_s_i64 (x : (List Int)) : Prop := x.length ≤ 9223372036854775807 ∧ ∀ y ∈ x, ok_i64 y
structure api_Failure where
  Links : (List Int)
  Devices : (List Int)
def row_api_Failure (x : api_Failure) : List PV := [.sl 1 (List.map row_i64 x.Links), .sl 1 (List.map row_i64 x.Devices)]
def ok_api_Failure (x : api_Failure) : Prop := ok_s_i64 x.Links ∧ ok_s_i64 x.Devices ∧ True
def pv_api_Failure (x : api_Failure) : PV := .agg (row_api_Failure x)
def z_api_Failure : api_Failure := api_Failure.mk ([] : (List Int)) ([] : (List Int))
structure api_Range where
  Lo : Int
  Hi : Int
def row_api_Range (x : api_Range) : List PV := [.sc (.int .u32 x.Lo), .sc (.int .u32 x.Hi)]
def ok_api_Range (x : api_Range) : Prop := ok_u32 x.Lo ∧ ok_u32 x.Hi ∧ True
def vs_api_Range (x : api_Range) : List Value := [.int .u32 x.Lo, .int .u32 x.Hi]
def pv_api_Range (x : api_Range) : PV := .sc (.agg ⟨vs_api_Range x⟩)
def eq_api_Range (x y : api_Range) : Bool := ((x.Lo == y.Lo) && ((x.Hi == y.Hi) && true))
def z_api_Range : api_Range := api_Range.mk (0:Int) (0:Int)
def row_a5_api_Range (x : (Arr5 api_Range)) : List PV := [.sc (.int .u32 x.x0.Lo), .sc (.int .u32 x.x0.Hi), .sc (.int .u32 x.x1.Lo), .sc (.int .u32 x.x1.Hi), .sc (.int .u32 x.x2.Lo), .sc (.int .u32 x.x2.Hi), .sc (.int .u32 x.x3.Lo), .sc (.int .u32 x.x3.Hi), .sc (.int .u32 x.x4.Lo), .sc (.int .u32 x.x4.Hi)]
def ok_a5_api_Range (x : (Arr5 api_Range)) : Prop := ok_api_Range x.x0 ∧ ok_api_Range x.x1 ∧ ok_api_Range x.x2 ∧ ok_api_Range x.x3 ∧ ok_api_Range x.x4 ∧ True
def vs_a5_api_Range (x : (Arr5 api_Range)) : List Value := [.int .u32 x.x0.Lo, .int .u32 x.x0.Hi, .int .u32 x.x1.Lo, .int .u32 x.x1.Hi, .int .u32 x.x2.Lo, .int .u32 x.x2.Hi, .int .u32 x.x3.Lo, .int .u32 x.x3.Hi, .int .u32 x.x4.Lo, .int .u32 x.x4.Hi]
def pv_a5_api_Range (x : (Arr5 api_Range)) : PV := .sc (.agg ⟨vs_a5_api_Range x⟩)
def eq_a5_api_Range (x y : (Arr5 api_Range)) : Bool := ((eq_api_Range x.x0 y.x0) && ((eq_api_Range x.x1 y.x1) && ((eq_api_Range x.x2 y.x2) && ((eq_api_Range x.x3 y.x3) && ((eq_api_Range x.x4 y.x4) && true)))))
def z_a5_api_Range : (Arr5 api_Range) := Arr5.mk z_api_Range z_api_Range z_api_Range z_api_Range z_api_Range
structure api_Rule where
  Match : (Arr5 api_Range)
  Permit : Bool
def row_api_Rule (x : api_Rule) : List PV := [.sc (.int .u32 x.Match.x0.Lo), .sc (.int .u32 x.Match.x0.Hi), .sc (.int .u32 x.Match.x1.Lo), .sc (.int .u32 x.Match.x1.Hi), .sc (.int .u32 x.Match.x2.Lo), .sc (.int .u32 x.Match.x2.Hi), .sc (.int .u32 x.Match.x3.Lo), .sc (.int .u32 x.Match.x3.Hi), .sc (.int .u32 x.Match.x4.Lo), .sc (.int .u32 x.Match.x4.Hi), .sc (.bool x.Permit)]
def ok_api_Rule (x : api_Rule) : Prop := ok_a5_api_Range x.Match ∧ ok_bool x.Permit ∧ True
def vs_api_Rule (x : api_Rule) : List Value := [.int .u32 x.Match.x0.Lo, .int .u32 x.Match.x0.Hi, .int .u32 x.Match.x1.Lo, .int .u32 x.Match.x1.Hi, .int .u32 x.Match.x2.Lo, .int .u32 x.Match.x2.Hi, .int .u32 x.Match.x3.Lo, .int .u32 x.Match.x3.Hi, .int .u32 x.Match.x4.Lo, .int .u32 x.Match.x4.Hi, .bool x.Permit]
def pv_api_Rule (x : api_Rule) : PV := .sc (.agg ⟨vs_api_Rule x⟩)
def eq_api_Rule (x y : api_Rule) : Bool := ((eq_a5_api_Range x.Match y.Match) && ((x.Permit == y.Permit) && true))
def z_api_Rule : api_Rule := api_Rule.mk z_a5_api_Range false
def row_s_api_Rule (x : (List api_Rule)) : List PV := [.sl 11 (List.map row_api_Rule x)]
def ok_s_api_Rule (x : (List api_Rule)) : Prop := x.length ≤ 9223372036854775807 ∧ ∀ y ∈ x, ok_api_Rule y
structure api_Move where
  From : (Arr5 api_Range)
  To : (Arr5 api_Range)
def row_api_Move (x : api_Move) : List PV := [.sc (.int .u32 x.From.x0.Lo), .sc (.int .u32 x.From.x0.Hi), .sc (.int .u32 x.From.x1.Lo), .sc (.int .u32 x.From.x1.Hi), .sc (.int .u32 x.From.x2.Lo), .sc (.int .u32 x.From.x2.Hi), .sc (.int .u32 x.From.x3.Lo), .sc (.int .u32 x.From.x3.Hi), .sc (.int .u32 x.From.x4.Lo), .sc (.int .u32 x.From.x4.Hi), .sc (.int .u32 x.To.x0.Lo), .sc (.int .u32 x.To.x0.Hi), .sc (.int .u32 x.To.x1.Lo), .sc (.int .u32 x.To.x1.Hi), .sc (.int .u32 x.To.x2.Lo), .sc (.int .u32 x.To.x2.Hi), .sc (.int .u32 x.To.x3.Lo), .sc (.int .u32 x.To.x3.Hi), .sc (.int .u32 x.To.x4.Lo), .sc (.int .u32 x.To.x4.Hi)]
def ok_api_Move (x : api_Move) : Prop := ok_a5_api_Range x.From ∧ ok_a5_api_Range x.To ∧ True
def vs_api_Move (x : api_Move) : List Value := [.int .u32 x.From.x0.Lo, .int .u32 x.From.x0.Hi, .int .u32 x.From.x1.Lo, .int .u32 x.From.x1.Hi, .int .u32 x.From.x2.Lo, .int .u32 x.From.x2.Hi, .int .u32 x.From.x3.Lo, .int .u32 x.From.x3.Hi, .int .u32 x.From.x4.Lo, .int .u32 x.From.x4.Hi, .int .u32 x.To.x0.Lo, .int .u32 x.To.x0.Hi, .int .u32 x.To.x1.Lo, .int .u32 x.To.x1.Hi, .int .u32 x.To.x2.Lo, .int .u32 x.To.x2.Hi, .int .u32 x.To.x3.Lo, .int .u32 x.To.x3.Hi, .int .u32 x.To.x4.Lo, .int .u32 x.To.x4.Hi]
def pv_api_Move (x : api_Move) : PV := .sc (.agg ⟨vs_api_Move x⟩)
def eq_api_Move (x y : api_Move) : Bool := ((eq_a5_api_Range x.From y.From) && ((eq_a5_api_Range x.To y.To) && true))
def z_api_Move : api_Move := api_Move.mk z_a5_api_Range z_a5_api_Range
def row_s_api_Move (x : (List api_Move)) : List PV := [.sl 20 (List.map row_api_Move x)]
def ok_s_api_Move (x : (List api_Move)) : Prop := x.length ≤ 9223372036854775807 ∧ ∀ y ∈ x, ok_api_Move y
structure api_Hide where
  Match : (Arr5 api_Range)
  Addr : Int
  Ports : api_Range
def row_api_Hide (x : api_Hide) : List PV := [.sc (.int .u32 x.Match.x0.Lo), .sc (.int .u32 x.Match.x0.Hi), .sc (.int .u32 x.Match.x1.Lo), .sc (.int .u32 x.Match.x1.Hi), .sc (.int .u32 x.Match.x2.Lo), .sc (.int .u32 x.Match.x2.Hi), .sc (.int .u32 x.Match.x3.Lo), .sc (.int .u32 x.Match.x3.Hi), .sc (.int .u32 x.Match.x4.Lo), .sc (.int .u32 x.Match.x4.Hi), .sc (.int .u32 x.Addr), .sc (.int .u32 x.Ports.Lo), .sc (.int .u32 x.Ports.Hi)]
def ok_api_Hide (x : api_Hide) : Prop := ok_a5_api_Range x.Match ∧ ok_u32 x.Addr ∧ ok_api_Range x.Ports ∧ True
def vs_api_Hide (x : api_Hide) : List Value := [.int .u32 x.Match.x0.Lo, .int .u32 x.Match.x0.Hi, .int .u32 x.Match.x1.Lo, .int .u32 x.Match.x1.Hi, .int .u32 x.Match.x2.Lo, .int .u32 x.Match.x2.Hi, .int .u32 x.Match.x3.Lo, .int .u32 x.Match.x3.Hi, .int .u32 x.Match.x4.Lo, .int .u32 x.Match.x4.Hi, .int .u32 x.Addr, .int .u32 x.Ports.Lo, .int .u32 x.Ports.Hi]
def pv_api_Hide (x : api_Hide) : PV := .sc (.agg ⟨vs_api_Hide x⟩)
def eq_api_Hide (x y : api_Hide) : Bool := ((eq_a5_api_Range x.Match y.Match) && ((x.Addr == y.Addr) && ((eq_api_Range x.Ports y.Ports) && true)))
def z_api_Hide : api_Hide := api_Hide.mk z_a5_api_Range (0:Int) z_api_Range
def row_s_api_Hide (x : (List api_Hide)) : List PV := [.sl 13 (List.map row_api_Hide x)]
def ok_s_api_Hide (x : (List api_Hide)) : Prop := x.length ≤ 9223372036854775807 ∧ ∀ y ∈ x, ok_api_Hide y
structure api_Steer where
  Match : (Arr5 api_Range)
  Class : ByteArray
def row_api_Steer (x : api_Steer) : List PV := [.sc (.int .u32 x.Match.x0.Lo), .sc (.int .u32 x.Match.x0.Hi), .sc (.int .u32 x.Match.x1.Lo), .sc (.int .u32 x.Match.x1.Hi), .sc (.int .u32 x.Match.x2.Lo), .sc (.int .u32 x.Match.x2.Hi), .sc (.int .u32 x.Match.x3.Lo), .sc (.int .u32 x.Match.x3.Hi), .sc (.int .u32 x.Match.x4.Lo), .sc (.int .u32 x.Match.x4.Hi), .sc (.string x.Class)]
def ok_api_Steer (x : api_Steer) : Prop := ok_a5_api_Range x.Match ∧ ok_str x.Class ∧ True
def vs_api_Steer (x : api_Steer) : List Value := [.int .u32 x.Match.x0.Lo, .int .u32 x.Match.x0.Hi, .int .u32 x.Match.x1.Lo, .int .u32 x.Match.x1.Hi, .int .u32 x.Match.x2.Lo, .int .u32 x.Match.x2.Hi, .int .u32 x.Match.x3.Lo, .int .u32 x.Match.x3.Hi, .int .u32 x.Match.x4.Lo, .int .u32 x.Match.x4.Hi, .string x.Class]
def pv_api_Steer (x : api_Steer) : PV := .sc (.agg ⟨vs_api_Steer x⟩)
def eq_api_Steer (x y : api_Steer) : Bool := ((eq_a5_api_Range x.Match y.Match) && ((x.Class.toList == y.Class.toList) && true))
def z_api_Steer : api_Steer := api_Steer.mk z_a5_api_Range ByteArray.empty
def row_s_api_Steer (x : (List api_Steer)) : List PV := [.sl 11 (List.map row_api_Steer x)]
def ok_s_api_Steer (x : (List api_Steer)) : Prop := x.length ≤ 9223372036854775807 ∧ ∀ y ∈ x, ok_api_Steer y
structure api_Port where
  Edge : Int
  Ingress : (List api_Rule)
  Egress : (List api_Rule)
  Moves : (List api_Move)
  Hides : (List api_Hide)
  Steers : (List api_Steer)
def row_api_Port (x : api_Port) : List PV := [.sc (.int .i64 x.Edge), .sl 11 (List.map row_api_Rule x.Ingress), .sl 11 (List.map row_api_Rule x.Egress), .sl 20 (List.map row_api_Move x.Moves), .sl 13 (List.map row_api_Hide x.Hides), .sl 11 (List.map row_api_Steer x.Steers)]
def ok_api_Port (x : api_Port) : Prop := ok_i64 x.Edge ∧ ok_s_api_Rule x.Ingress ∧ ok_s_api_Rule x.Egress ∧ ok_s_api_Move x.Moves ∧ ok_s_api_Hide x.Hides ∧ ok_s_api_Steer x.Steers ∧ True
def pv_api_Port (x : api_Port) : PV := .agg (row_api_Port x)
def z_api_Port : api_Port := api_Port.mk (0:Int) ([] : (List api_Rule)) ([] : (List api_Rule)) ([] : (List api_Move)) ([] : (List api_Hide)) ([] : (List api_Steer))
def row_s_api_Port (x : (List api_Port)) : List PV := [.sl 6 (List.map row_api_Port x)]
def ok_s_api_Port (x : (List api_Port)) : Prop := x.length ≤ 9223372036854775807 ∧ ∀ y ∈ x, ok_api_Port y
structure api_Config where
  Ports : (List api_Port)
def row_api_Config (x : api_Config) : List PV := [.sl 6 (List.map row_api_Port x.Ports)]
def ok_api_Config (x : api_Config) : Prop := ok_s_api_Port x.Ports ∧ True
def pv_api_Config (x : api_Config) : PV := .agg (row_api_Config x)
def z_api_Config : api_Config := api_Config.mk ([] : (List api_Port))
def row_s_api_Config (x : (List api_Config)) : List PV := [.sl 1 (List.map row_api_Config x)]
def ok_s_api_Config (x : (List api_Config)) : Prop := x.length ≤ 9223372036854775807 ∧ ∀ y ∈ x, ok_api_Config y
structure api_Route where
  Prefix : api_Prefix
  Edge : Bool
  Port : Int
def row_api_Route (x : api_Route) : List PV := [.sc (.int .u32 x.Prefix.Addr), .sc (.int .i64 x.Prefix.Bits), .sc (.bool x.Edge), .sc (.int .i64 x.Port)]
def ok_api_Route (x : api_Route) : Prop := ok_api_Prefix x.Prefix ∧ ok_bool x.Edge ∧ ok_i64 x.Port ∧ True
def vs_api_Route (x : api_Route) : List Value := [.int .u32 x.Prefix.Addr, .int .i64 x.Prefix.Bits, .bool x.Edge, .int .i64 x.Port]
def pv_api_Route (x : api_Route) : PV := .sc (.agg ⟨vs_api_Route x⟩)
def eq_api_Route (x y : api_Route) : Bool := ((eq_api_Prefix x.Prefix y.Prefix) && ((x.Edge == y.Edge) && ((x.Port == y.Port) && true)))
def z_api_Route : api_Route := api_Route.mk z_api_Prefix false (0:Int)
def row_s_api_Route (x : (List api_Route)) : List PV := [.sl 4 (List.map row_api_Route x)]
def ok_s_api_Route (x : (List api_Route)) : Prop := x.length ≤ 9223372036854775807 ∧ ∀ y ∈ x, ok_api_Route y
def row_s_s_api_Route (x : (List (List api_Route))) : List PV := [.sl 1 (List.map row_s_api_Route x)]
def ok_s_s_api_Route (x : (List (List api_Route))) : Prop := x.length ≤ 9223372036854775807 ∧ ∀ y ∈ x, ok_s_api_Route y
def row_s_s_i64 (x : (List (List Int))) : List PV := [.sl 1 (List.map row_s_i64 x)]
def ok_s_s_i64 (x : (List (List Int))) : Prop := x.length ≤ 9223372036854775807 ∧ ∀ y ∈ x, ok_s_i64 y
structure api_Network where
  Topology : api_Topology
  Failure : api_Failure
  Configs : (List api_Config)
  Routes : (List (List api_Route))
  Labels : (List (List Int))
def row_api_Network (x : api_Network) : List PV := [.sl 5 (List.map row_api_Device x.Topology.Devices), .sl 3 (List.map row_api_Link x.Topology.Links), .sl 6 (List.map row_api_Edge x.Topology.Edges), .sl 2 (List.map row_api_Prefix x.Topology.Pools), .sc (.int .i64 x.Topology.Tolerate), .sl 1 (List.map row_i64 x.Failure.Links), .sl 1 (List.map row_i64 x.Failure.Devices), .sl 1 (List.map row_api_Config x.Configs), .sl 1 (List.map row_s_api_Route x.Routes), .sl 1 (List.map row_s_i64 x.Labels)]
def ok_api_Network (x : api_Network) : Prop := ok_api_Topology x.Topology ∧ ok_api_Failure x.Failure ∧ ok_s_api_Config x.Configs ∧ ok_s_s_api_Route x.Routes ∧ ok_s_s_i64 x.Labels ∧ True
def pv_api_Network (x : api_Network) : PV := .agg (row_api_Network x)
def z_api_Network : api_Network := api_Network.mk z_api_Topology z_api_Failure ([] : (List api_Config)) ([] : (List (List api_Route))) ([] : (List (List Int)))
def glob_box_tops : (Arr5 Int) := Arr5.mk 4294967295 4294967295 255 65535 65535
end Go.AM

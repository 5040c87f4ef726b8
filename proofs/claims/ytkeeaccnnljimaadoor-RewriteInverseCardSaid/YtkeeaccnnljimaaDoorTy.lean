/- Printed by gen.py: the types of the program, as plain types. -/
import Derived.Test.YtkeeaccnnljimaaDoorBC
set_option maxRecDepth 100000
namespace Go.AM
open Go
structure Arr5 (α : Type) where
  x0 : α
  x1 : α
  x2 : α
  x3 : α
  x4 : α
def Arr5.get {α : Type} (a : Arr5 α) (i : Int) : α := if i = 0 then a.x0 else if i = 1 then a.x1 else if i = 2 then a.x2 else if i = 3 then a.x3 else a.x4
def Arr5.set {α : Type} (a : Arr5 α) (i : Int) (v : α) : Arr5 α := if i = 0 then { a with x0 := v } else if i = 1 then { a with x1 := v } else if i = 2 then { a with x2 := v } else if i = 3 then { a with x3 := v } else { a with x4 := v }
def row_a5_u32 (x : (Arr5 Int)) : List PV := [.sc (.int .u32 x.x0), .sc (.int .u32 x.x1), .sc (.int .u32 x.x2), .sc (.int .u32 x.x3), .sc (.int .u32 x.x4)]
def ok_a5_u32 (x : (Arr5 Int)) : Prop := ok_u32 x.x0 ∧ ok_u32 x.x1 ∧ ok_u32 x.x2 ∧ ok_u32 x.x3 ∧ ok_u32 x.x4 ∧ True
def vs_a5_u32 (x : (Arr5 Int)) : List Value := [.int .u32 x.x0, .int .u32 x.x1, .int .u32 x.x2, .int .u32 x.x3, .int .u32 x.x4]
def pv_a5_u32 (x : (Arr5 Int)) : PV := .sc (.agg ⟨vs_a5_u32 x⟩)
def eq_a5_u32 (x y : (Arr5 Int)) : Bool := ((x.x0 == y.x0) && ((x.x1 == y.x1) && ((x.x2 == y.x2) && ((x.x3 == y.x3) && ((x.x4 == y.x4) && true)))))
def z_a5_u32 : (Arr5 Int) := Arr5.mk (0:Int) (0:Int) (0:Int) (0:Int) (0:Int)
def row_s_i64 (x : (List Int)) : List PV := [.sl 1 (List.map row_i64 x)]
def ok_s_i64 (x : (List Int)) : Prop := x.length ≤ 9223372036854775807 ∧ ∀ y ∈ x, ok_i64 y
structure api_Header where
  Src : Int
  Dst : Int
  Proto : Int
  SrcPort : Int
  DstPort : Int
def row_api_Header (x : api_Header) : List PV := [.sc (.int .u32 x.Src), .sc (.int .u32 x.Dst), .sc (.int .u8 x.Proto), .sc (.int .u16 x.SrcPort), .sc (.int .u16 x.DstPort)]
def ok_api_Header (x : api_Header) : Prop := ok_u32 x.Src ∧ ok_u32 x.Dst ∧ ok_u8 x.Proto ∧ ok_u16 x.SrcPort ∧ ok_u16 x.DstPort ∧ True
def vs_api_Header (x : api_Header) : List Value := [.int .u32 x.Src, .int .u32 x.Dst, .int .u8 x.Proto, .int .u16 x.SrcPort, .int .u16 x.DstPort]
def pv_api_Header (x : api_Header) : PV := .sc (.agg ⟨vs_api_Header x⟩)
def eq_api_Header (x y : api_Header) : Bool := ((x.Src == y.Src) && ((x.Dst == y.Dst) && ((x.Proto == y.Proto) && ((x.SrcPort == y.SrcPort) && ((x.DstPort == y.DstPort) && true)))))
def z_api_Header : api_Header := api_Header.mk (0:Int) (0:Int) (0:Int) (0:Int) (0:Int)
structure nsggen_Tape where
  f_l : (List Int)
  f_i : Int
def row_nsggen_Tape (x : nsggen_Tape) : List PV := [.sl 1 (List.map row_i64 x.f_l), .sc (.int .i64 x.f_i)]
def ok_nsggen_Tape (x : nsggen_Tape) : Prop := ok_s_i64 x.f_l ∧ ok_i64 x.f_i ∧ True
def pv_nsggen_Tape (x : nsggen_Tape) : PV := .agg (row_nsggen_Tape x)
def z_nsggen_Tape : nsggen_Tape := nsggen_Tape.mk ([] : (List Int)) (0:Int)
structure api_Range where
  Lo : Int
  Hi : Int
def row_api_Range (x : api_Range) : List PV := [.sc (.int .u32 x.Lo), .sc (.int .u32 x.Hi)]
def ok_api_Range (x : api_Range) : Prop := ok_u32 x.Lo ∧ ok_u32 x.Hi ∧ True
def vs_api_Range (x : api_Range) : List Value := [.int .u32 x.Lo, .int .u32 x.Hi]
def pv_api_Range (x : api_Range) : PV := .sc (.agg ⟨vs_api_Range x⟩)
def eq_api_Range (x y : api_Range) : Bool := ((x.Lo == y.Lo) && ((x.Hi == y.Hi) && true))
def z_api_Range : api_Range := api_Range.mk (0:Int) (0:Int)
def row_a5_api_Range (x : (Arr5 api_Range)) : List PV := [.sc (.int .u32 x.x0.Lo), .sc (.int .u32 x.x0.Hi), .sc (.int .u32 x.x1.Lo), .sc (.int .u32 x.x1.Hi), .sc (.int .u32 x.x2.Lo), .sc (.int .u32 x.x2.Hi), .sc (.int .u32 x.x3.Lo), .sc (.int .u32 x.x3.Hi), .sc (.int .u32 x.x4.Lo), .sc (.int .u32 x.x4.Hi)]
def ok_a5_api_Range (x : (Arr5 api_Range)) : Prop := ok_api_Range x.x0 ∧ ok_api_Range x.x1 ∧ ok_api_Range x.x2 ∧ ok_api_Range x.x3 ∧ ok_api_Range x.x4 ∧ True
def vs_a5_api_Range (x : (Arr5 api_Range)) : List Value := [.int .u32 x.x0.Lo, .int .u32 x.x0.Hi, .int .u32 x.x1.Lo, .int .u32 x.x1.Hi, .int .u32 x.x2.Lo, .int .u32 x.x2.Hi, .int .u32 x.x3.Lo, .int .u32 x.x3.Hi, .int .u32 x.x4.Lo, .int .u32 x.x4.Hi]
def pv_a5_api_Range (x : (Arr5 api_Range)) : PV := .sc (.agg ⟨vs_a5_api_Range x⟩)
def eq_a5_api_Range (x y : (Arr5 api_Range)) : Bool := ((eq_api_Range x.x0 y.x0) && ((eq_api_Range x.x1 y.x1) && ((eq_api_Range x.x2 y.x2) && ((eq_api_Range x.x3 y.x3) && ((eq_api_Range x.x4 y.x4) && true)))))
def z_a5_api_Range : (Arr5 api_Range) := Arr5.mk z_api_Range z_api_Range z_api_Range z_api_Range z_api_Range
structure api_Move where
  From : (Arr5 api_Range)
  To : (Arr5 api_Range)
def row_api_Move (x : api_Move) : List PV := [.sc (.int .u32 x.From.x0.Lo), .sc (.int .u32 x.From.x0.Hi), .sc (.int .u32 x.From.x1.Lo), .sc (.int .u32 x.From.x1.Hi), .sc (.int .u32 x.From.x2.Lo), .sc (.int .u32 x.From.x2.Hi), .sc (.int .u32 x.From.x3.Lo), .sc (.int .u32 x.From.x3.Hi), .sc (.int .u32 x.From.x4.Lo), .sc (.int .u32 x.From.x4.Hi), .sc (.int .u32 x.To.x0.Lo), .sc (.int .u32 x.To.x0.Hi), .sc (.int .u32 x.To.x1.Lo), .sc (.int .u32 x.To.x1.Hi), .sc (.int .u32 x.To.x2.Lo), .sc (.int .u32 x.To.x2.Hi), .sc (.int .u32 x.To.x3.Lo), .sc (.int .u32 x.To.x3.Hi), .sc (.int .u32 x.To.x4.Lo), .sc (.int .u32 x.To.x4.Hi)]
def ok_api_Move (x : api_Move) : Prop := ok_a5_api_Range x.From ∧ ok_a5_api_Range x.To ∧ True
def vs_api_Move (x : api_Move) : List Value := [.int .u32 x.From.x0.Lo, .int .u32 x.From.x0.Hi, .int .u32 x.From.x1.Lo, .int .u32 x.From.x1.Hi, .int .u32 x.From.x2.Lo, .int .u32 x.From.x2.Hi, .int .u32 x.From.x3.Lo, .int .u32 x.From.x3.Hi, .int .u32 x.From.x4.Lo, .int .u32 x.From.x4.Hi, .int .u32 x.To.x0.Lo, .int .u32 x.To.x0.Hi, .int .u32 x.To.x1.Lo, .int .u32 x.To.x1.Hi, .int .u32 x.To.x2.Lo, .int .u32 x.To.x2.Hi, .int .u32 x.To.x3.Lo, .int .u32 x.To.x3.Hi, .int .u32 x.To.x4.Lo, .int .u32 x.To.x4.Hi]
def pv_api_Move (x : api_Move) : PV := .sc (.agg ⟨vs_api_Move x⟩)
def eq_api_Move (x y : api_Move) : Bool := ((eq_a5_api_Range x.From y.From) && ((eq_a5_api_Range x.To y.To) && true))
def z_api_Move : api_Move := api_Move.mk z_a5_api_Range z_a5_api_Range
structure api_Prefix where
  Addr : Int
  Bits : Int
def row_api_Prefix (x : api_Prefix) : List PV := [.sc (.int .u32 x.Addr), .sc (.int .i64 x.Bits)]
def ok_api_Prefix (x : api_Prefix) : Prop := ok_u32 x.Addr ∧ ok_i64 x.Bits ∧ True
def vs_api_Prefix (x : api_Prefix) : List Value := [.int .u32 x.Addr, .int .i64 x.Bits]
def pv_api_Prefix (x : api_Prefix) : PV := .sc (.agg ⟨vs_api_Prefix x⟩)
def eq_api_Prefix (x y : api_Prefix) : Bool := ((x.Addr == y.Addr) && ((x.Bits == y.Bits) && true))
def z_api_Prefix : api_Prefix := api_Prefix.mk (0:Int) (0:Int)
def row_s_api_Move (x : (List api_Move)) : List PV := [.sl 20 (List.map row_api_Move x)]
def ok_s_api_Move (x : (List api_Move)) : Prop := x.length ≤ 9223372036854775807 ∧ ∀ y ∈ x, ok_api_Move y
def row_s_a5_api_Range (x : (List (Arr5 api_Range))) : List PV := [.sl 10 (List.map row_a5_api_Range x)]
def ok_s_a5_api_Range (x : (List (Arr5 api_Range))) : Prop := x.length ≤ 9223372036854775807 ∧ ∀ y ∈ x, ok_a5_api_Range y
structure rewrite_ledger where
  f_err : Int
def row_rewrite_ledger (x : rewrite_ledger) : List PV := [.sc (.int .i64 x.f_err)]
def ok_rewrite_ledger (x : rewrite_ledger) : Prop := ok_i64 x.f_err ∧ True
def vs_rewrite_ledger (x : rewrite_ledger) : List Value := [.int .i64 x.f_err]
def pv_rewrite_ledger (x : rewrite_ledger) : PV := .sc (.agg ⟨vs_rewrite_ledger x⟩)
def eq_rewrite_ledger (x y : rewrite_ledger) : Bool := ((x.f_err == y.f_err) && true)
def z_rewrite_ledger : rewrite_ledger := rewrite_ledger.mk (0:Int)
structure packetset_group where
  f_values : api_Range
  f_rest : (List (Arr5 api_Range))
def row_packetset_group (x : packetset_group) : List PV := [.sc (.int .u32 x.f_values.Lo), .sc (.int .u32 x.f_values.Hi), .sl 10 (List.map row_a5_api_Range x.f_rest)]
def ok_packetset_group (x : packetset_group) : Prop := ok_api_Range x.f_values ∧ ok_s_a5_api_Range x.f_rest ∧ True
def pv_packetset_group (x : packetset_group) : PV := .agg (row_packetset_group x)
def z_packetset_group : packetset_group := packetset_group.mk z_api_Range ([] : (List (Arr5 api_Range)))
def row_s_s_a5_api_Range (x : (List (List (Arr5 api_Range)))) : List PV := [.sl 1 (List.map row_s_a5_api_Range x)]
def ok_s_s_a5_api_Range (x : (List (List (Arr5 api_Range)))) : Prop := x.length ≤ 9223372036854775807 ∧ ∀ y ∈ x, ok_s_a5_api_Range y
def glob_box_tops : (Arr5 Int) := Arr5.mk 4294967295 4294967295 255 65535 65535
end Go.AM

/- Plain functions on integers, as the machine computes them; arrays of a fixed length. No condition. -/
import Derived.Test.YtdpogkakaeeccaaDoorA13
namespace Go.AM

def bAnd (k : IntKind) (x y : Int) : Int := k.wrap ((BitVec.ofInt k.bits x &&& BitVec.ofInt k.bits y).toNat : Nat)
def bOr (k : IntKind) (x y : Int) : Int := k.wrap ((BitVec.ofInt k.bits x ||| BitVec.ofInt k.bits y).toNat : Nat)
def bXor (k : IntKind) (x y : Int) : Int := k.wrap ((BitVec.ofInt k.bits x ^^^ BitVec.ofInt k.bits y).toNat : Nat)
def bAndNot (k : IntKind) (x y : Int) : Int := k.wrap ((BitVec.ofInt k.bits x &&& ~~~ BitVec.ofInt k.bits y).toNat : Nat)
def bShl (k : IntKind) (x y : Int) : Int := k.wrap (x * 2 ^ min y.toNat k.bits)
def bShr (k : IntKind) (x y : Int) : Int := x.fdiv (2 ^ min y.toNat k.bits)
def iMin (x y : Int) : Int := if y < x then y else x
def iMax (x y : Int) : Int := if y > x then y else x
def eqInt (x y : Int) : Bool := x == y
def eqBool (x y : Bool) : Bool := x == y
def eqStr (x y : ByteArray) : Bool := x.toList == y.toList

def row_bool (x : Bool) : List PV := [.sc (.bool x)]
def row_str (x : ByteArray) : List PV := [.sc (.string x)]
def row_i8 (x : Int) : List PV := [.sc (.int .i8 x)]
def row_i16 (x : Int) : List PV := [.sc (.int .i16 x)]
def row_i32 (x : Int) : List PV := [.sc (.int .i32 x)]
def row_i64 (x : Int) : List PV := [.sc (.int .i64 x)]
def row_u8 (x : Int) : List PV := [.sc (.int .u8 x)]
def row_u16 (x : Int) : List PV := [.sc (.int .u16 x)]
def row_u32 (x : Int) : List PV := [.sc (.int .u32 x)]
def row_u64 (x : Int) : List PV := [.sc (.int .u64 x)]
end Go.AM

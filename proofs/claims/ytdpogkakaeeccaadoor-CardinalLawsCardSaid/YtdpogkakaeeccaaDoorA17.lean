/- What may be read of a value of a basic type. No condition. -/
import Derived.Test.YtdpogkakaeeccaaDoorA16
namespace Go.AM
def ok_i8 (n : Int) : Prop := -128 ≤ n ∧ n < 128
def ok_i16 (n : Int) : Prop := -32768 ≤ n ∧ n < 32768
def ok_i32 (n : Int) : Prop := -2147483648 ≤ n ∧ n < 2147483648
def ok_i64 (n : Int) : Prop := -9223372036854775808 ≤ n ∧ n < 9223372036854775808
def ok_u8 (n : Int) : Prop := 0 ≤ n ∧ n < 256
def ok_u16 (n : Int) : Prop := 0 ≤ n ∧ n < 65536
def ok_u32 (n : Int) : Prop := 0 ≤ n ∧ n < 4294967296
def ok_u64 (n : Int) : Prop := 0 ≤ n ∧ n < 18446744073709551616
def ok_bool (_ : Bool) : Prop := True
def ok_str (s : ByteArray) : Prop := s.size ≤ 9223372036854775807
theorem wf_i8 {n : Int} (h : (Lit.int .i8 n).wf = true) : ok_i8 n := by
  simp [Lit.wf, IntKind.min, IntKind.max, IntKind.signed, IntKind.bits] at h
  unfold ok_i8; omega
theorem wf_i16 {n : Int} (h : (Lit.int .i16 n).wf = true) : ok_i16 n := by
  simp [Lit.wf, IntKind.min, IntKind.max, IntKind.signed, IntKind.bits] at h
  unfold ok_i16; omega
theorem wf_i32 {n : Int} (h : (Lit.int .i32 n).wf = true) : ok_i32 n := by
  simp [Lit.wf, IntKind.min, IntKind.max, IntKind.signed, IntKind.bits] at h
  unfold ok_i32; omega
theorem wf_i64 {n : Int} (h : (Lit.int .i64 n).wf = true) : ok_i64 n := by
  simp [Lit.wf, IntKind.min, IntKind.max, IntKind.signed, IntKind.bits] at h
  unfold ok_i64; omega
theorem wf_u8 {n : Int} (h : (Lit.int .u8 n).wf = true) : ok_u8 n := by
  simp [Lit.wf, IntKind.min, IntKind.max, IntKind.signed, IntKind.bits] at h
  unfold ok_u8; omega
theorem wf_u16 {n : Int} (h : (Lit.int .u16 n).wf = true) : ok_u16 n := by
  simp [Lit.wf, IntKind.min, IntKind.max, IntKind.signed, IntKind.bits] at h
  unfold ok_u16; omega
theorem wf_u32 {n : Int} (h : (Lit.int .u32 n).wf = true) : ok_u32 n := by
  simp [Lit.wf, IntKind.min, IntKind.max, IntKind.signed, IntKind.bits] at h
  unfold ok_u32; omega
theorem wf_u64 {n : Int} (h : (Lit.int .u64 n).wf = true) : ok_u64 n := by
  simp [Lit.wf, IntKind.min, IntKind.max, IntKind.signed, IntKind.bits] at h
  unfold ok_u64; omega
end Go.AM

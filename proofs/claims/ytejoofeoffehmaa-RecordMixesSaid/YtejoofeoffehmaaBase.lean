/- Plain words used by the proofs of this seat: numbers of Go's unsigned kinds as Lean's UInt8 .. UInt64, slices that read as lists. No program is named here. -/
import Derived.WalkKit
import Derived.WalkSpells
import Derived.WalkLawsBesides
import Derived.Lib.Hide
import Derived.Deep.AppendLies
import Derived.Deep.Draws
namespace Go.Proofs.Ytejoofeoffehmaa
open Go.RowKit

/-! ## Numbers -/
theorem ofInt_cast (n k : Nat) : BitVec.ofInt n (k : Int) = BitVec.ofNat n k := by
  apply BitVec.eq_of_toInt_eq
  simp

theorem ofNat_u8 (x : UInt8) : BitVec.ofNat 8 x.toNat = x.toBitVec := by
  apply BitVec.eq_of_toNat_eq; simp
theorem ofNat_u16 (x : UInt16) : BitVec.ofNat 16 x.toNat = x.toBitVec := by
  apply BitVec.eq_of_toNat_eq; simp
theorem ofNat_u32 (x : UInt32) : BitVec.ofNat 32 x.toNat = x.toBitVec := by
  apply BitVec.eq_of_toNat_eq; simp
theorem ofNat_u64 (x : UInt64) : BitVec.ofNat 64 x.toNat = x.toBitVec := by
  apply BitVec.eq_of_toNat_eq; simp

theorem wrap_u8_cast (n : Nat) (h : n < 256) : IntKind.u8.wrap (n : Int) = n := by
  rw [IntKind.wrap_u8]; omega
theorem wrap_u16_cast (n : Nat) (h : n < 65536) : IntKind.u16.wrap (n : Int) = n := by
  have : IntKind.u16.wrap (n : Int) = (n : Int) % 65536 := by simp [IntKind.wrap, IntKind.bits, IntKind.signed]
  rw [this]; omega
theorem wrap_u32_cast (n : Nat) (h : n < 4294967296) : IntKind.u32.wrap (n : Int) = n := by
  rw [IntKind.wrap_u32]; omega
theorem wrap_u64_eq (n : Int) : IntKind.u64.wrap n = n % 18446744073709551616 := by
  simp [IntKind.wrap, IntKind.bits, IntKind.signed]
theorem wrap_u64_cast (n : Nat) (h : n < 18446744073709551616) : IntKind.u64.wrap (n : Int) = n := by
  rw [wrap_u64_eq]; omega

section
@[go_sem] theorem bits_xor_u8 (x y : UInt8) : bits .xor .u8 (x.toNat : Int) (y.toNat : Int) = ((x ^^^ y).toNat : Int) := by
  show IntKind.u8.wrap ((BitVec.ofInt 8 _ ^^^ BitVec.ofInt 8 _).toNat : Int) = _
  rw [ofInt_cast, ofInt_cast, ofNat_u8, ofNat_u8]
  exact wrap_u8_cast _ (x.toBitVec ^^^ y.toBitVec).isLt
@[go_sem] theorem bits_xor_u32 (x y : UInt32) : bits .xor .u32 (x.toNat : Int) (y.toNat : Int) = ((x ^^^ y).toNat : Int) := by
  show IntKind.u32.wrap ((BitVec.ofInt 32 _ ^^^ BitVec.ofInt 32 _).toNat : Int) = _
  rw [ofInt_cast, ofInt_cast, ofNat_u32, ofNat_u32]
  exact wrap_u32_cast _ (x.toBitVec ^^^ y.toBitVec).isLt
@[go_sem] theorem bits_xor_u64 (x y : UInt64) : bits .xor .u64 (x.toNat : Int) (y.toNat : Int) = ((x ^^^ y).toNat : Int) := by
  show IntKind.u64.wrap ((BitVec.ofInt 64 _ ^^^ BitVec.ofInt 64 _).toNat : Int) = _
  rw [ofInt_cast, ofInt_cast, ofNat_u64, ofNat_u64]
  exact wrap_u64_cast _ (x.toBitVec ^^^ y.toBitVec).isLt
@[go_sem] theorem bits_and_u32 (x y : UInt32) : bits .and .u32 (x.toNat : Int) (y.toNat : Int) = ((x &&& y).toNat : Int) := by
  show IntKind.u32.wrap ((BitVec.ofInt 32 _ &&& BitVec.ofInt 32 _).toNat : Int) = _
  rw [ofInt_cast, ofInt_cast, ofNat_u32, ofNat_u32]
  exact wrap_u32_cast _ (x.toBitVec &&& y.toBitVec).isLt
@[go_sem] theorem bits_or_u64 (x y : UInt64) : bits .or .u64 (x.toNat : Int) (y.toNat : Int) = ((x ||| y).toNat : Int) := by
  show IntKind.u64.wrap ((BitVec.ofInt 64 _ ||| BitVec.ofInt 64 _).toNat : Int) = _
  rw [ofInt_cast, ofInt_cast, ofNat_u64, ofNat_u64]
  exact wrap_u64_cast _ (x.toBitVec ||| y.toBitVec).isLt
end

theorem u8_32 (x : UInt8) : (x.toNat : Int) % (4294967296 : Int) = (x.toUInt32.toNat : Int) := by
  have := x.toNat_lt; simp; omega
theorem u8_64 (x : UInt8) : (x.toNat : Int) % (18446744073709551616 : Int) = (x.toUInt64.toNat : Int) := by
  have := x.toNat_lt; simp; omega
theorem u32_8 (x : UInt32) : (x.toNat : Int) % (256 : Int) = (x.toUInt8.toNat : Int) := by simp
theorem u64_8 (x : UInt64) : (x.toNat : Int) % (256 : Int) = (x.toUInt8.toNat : Int) := by simp
theorem u32_half (x : UInt32) : (x.toNat : Int) / (2 : Int) = ((x >>> 1).toNat : Int) := by
  rw [UInt32.toNat_shiftRight]; simp [Nat.shiftRight_succ]
theorem u32_shr8 (x : UInt32) : (x.toNat : Int) / (256 : Int) = ((x >>> 8).toNat : Int) := by
  rw [UInt32.toNat_shiftRight]; simp [Nat.shiftRight_eq_div_pow]
theorem u64_shr32 (x : UInt64) : (x.toNat : Int) / (4294967296 : Int) = ((x >>> 32).toNat : Int) := by
  rw [UInt64.toNat_shiftRight]; simp [Nat.shiftRight_eq_div_pow]

theorem ret_int {k : IntKind} {a b : Int} (h : a = b) : Ending.returned (.int k a) = Ending.returned (.int k b) := by rw [h]
theorem not_u32 (x : UInt32) : bits .xor .u32 IntKind.u32.max (x.toNat : Int) = ((x ^^^ 4294967295).toNat : Int) := by
  have h := bits_xor_u32 4294967295 x
  rw [UInt32.xor_comm] at h
  exact h
/-- The place in the table, as the walk spells it. -/
theorem xor_u8_of_u32 (r : UInt32) (x : UInt8) : bits .xor .u8 ((r.toNat : Int) % (256 : Int)) (x.toNat : Int) = ((r.toUInt8 ^^^ x).toNat : Int) := by
  rw [u32_8]; exact bits_xor_u8 _ _
theorem xor_shr8 (r t : UInt32) : bits .xor .u32 ((r.toNat : Int) / (256 : Int)) (t.toNat : Int) = (((r >>> 8) ^^^ t).toNat : Int) := by
  rw [u32_shr8]; exact bits_xor_u32 _ _

/-- min of numbers that are not negative. -/
theorem min2_nat {P : Program} (a b : Nat) (w : World) : (Builtin.min2 (.int .i64 (a : Int)) (.int .i64 (b : Int))).run P w = .ok (.int .i64 ((min a b : Nat) : Int)) w := by
  show Result.ok (Value.int .i64 (if (b : Int) < a then (b : Int) else a)) w = _
  by_cases h : (b : Int) < a
  · rw [if_pos h]
    have : min a b = b := by omega
    rw [this]
  · rw [if_neg h]
    have : min a b = a := by omega
    rw [this]
theorem run_min_nat4 {P : Program} (ts : Array TypeId) (t : TypeId) (a b c d n : Nat) (h : min (min (min a b) c) d = n) (w : World) :
    (Builtin.min_ ts t #[.int .i64 (a : Int), .int .i64 (b : Int), .int .i64 (c : Int), .int .i64 (d : Int)]).run P w = .ok (.int .i64 (n : Int)) w := by
  subst h
  show (([(Value.int .i64 (b : Int)), .int .i64 (c : Int), .int .i64 (d : Int)] : List Value).foldlM Builtin.min2 (.int .i64 (a : Int))).run P w = _
  simp only [List.foldlM_cons, List.foldlM_nil, Sem.run_bind, min2_nat, Result.andThen_ok]
  rfl
theorem run_min_nat2 {P : Program} (ts : Array TypeId) (t : TypeId) (a b n : Nat) (h : min a b = n) (w : World) :
    (Builtin.min_ ts t #[.int .i64 (a : Int), .int .i64 (b : Int)]).run P w = .ok (.int .i64 (n : Int)) w := by
  subst h
  show (([(Value.int .i64 (b : Int))] : List Value).foldlM Builtin.min2 (.int .i64 (a : Int))).run P w = _
  simp only [List.foldlM_cons, List.foldlM_nil, Sem.run_bind, min2_nat, Result.andThen_ok]
  rfl

end Go.Proofs.Ytejoofeoffehmaa

/- The plain mathematics of the digest. -/
import Derived.Test.YtejoofeoffehmaaBase
namespace Go.Proofs.Ytejoofeoffehmaa

def digStep (h : UInt64) (b : UInt8) : UInt64 := (h ^^^ b.toUInt64) * 1099511628211
def digs (l : List UInt8) : UInt64 := l.foldl digStep 14695981039346656037
def digEnd (h : UInt64) : UInt64 := h ^^^ (h >>> 32)
/-- The digest of bytes. -/
def dig (l : List UInt8) : UInt64 := digEnd (digs l)
theorem digs_snoc (l : List UInt8) (b : UInt8) : digs (l ++ [b]) = digStep (digs l) b := by simp [digs]

theorem mul_u64 (x y : UInt64) : ((x.toNat : Int) * (y.toNat : Int)) % (18446744073709551616 : Int) = ((x * y).toNat : Int) := by
  rw [UInt64.toNat_mul]; omega
theorem xor_u64_u8 (h : UInt64) (b : UInt8) : bits .xor .u64 (h.toNat : Int) (b.toNat : Int) = ((h ^^^ b.toUInt64).toNat : Int) := by
  rw [← bits_xor_u64]; simp

theorem dig_step_val (h : UInt64) (x : UInt8) : IntKind.u64.wrap (bits .xor .u64 (h.toNat : Int) (IntKind.u64.wrap (x.toNat : Int)) * (1099511628211 : Int)) = ((digStep h x).toNat : Int) := by
  rw [wrap_u64_cast _ (Nat.lt_trans x.toNat_lt (by decide)), xor_u64_u8, wrap_u64_eq]
  exact mul_u64 _ 1099511628211
theorem dig_end_val (h : UInt64) : bits .xor .u64 (h.toNat : Int) ((h.toNat : Int) / (4294967296 : Int)) = ((digEnd h).toNat : Int) := by
  rw [u64_shr32, bits_xor_u64]; rfl

end Go.Proofs.Ytejoofeoffehmaa

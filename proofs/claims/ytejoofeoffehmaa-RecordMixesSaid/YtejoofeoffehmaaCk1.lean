/- Contracts: the register of the reference, the reference's Combine. -/
import Derived.Test.YtejoofeoffehmaaRows
import Derived.Test.YtejoofeoffehmaaBase
import Derived.Test.YtejoofeoffehmaaCrc
namespace Go.Proofs.Ytejoofeoffehmaa
open Go.RowKit

theorem regStep_odd_val (x : UInt32) (h : ((x.toNat : Int) % 2 == 1) = true) : bits .xor .u32 ((x.toNat : Int) / 2) 2197175160 = ((regStep x).toNat : Int) := by
  have e : x % 2 = 1 := by
    apply UInt32.toNat_inj.1
    rw [UInt32.toNat_mod]
    simp at h ⊢
    omega
  rw [u32_half, regStep, if_pos e]
  exact bits_xor_u32 _ 2197175160
theorem regStep_even_val (x : UInt32) (h : ((x.toNat : Int) % 2 == 1) = false) : (x.toNat : Int) / 2 = ((regStep x).toNat : Int) := by
  have e : ¬ x % 2 = 1 := by
    intro e
    have := congrArg UInt32.toNat e
    rw [UInt32.toNat_mod] at this
    simp at h this
    omega
  rw [u32_half, regStep, if_neg e]
theorem xor_u32_u8 (r : UInt32) (b : UInt8) : bits .xor .u32 (r.toNat : Int) (b.toNat : Int) = ((r ^^^ b.toUInt32).toNat : Int) := by
  rw [← bits_xor_u32]; simp

set_option maxHeartbeats 400000 in
theorem register_any (r : UInt32) (b : UInt8) (w : World) :
    Calls Try.prog 45 #[.int .u32 r.toNat, .int .u8 b.toNat] w fun e w' => e = .returned (.int .u32 (reg r b).toNat) ∧ w = w' := by
  go_enter Try.func45, Try.ntmps45
  go_wp2
  go_loop [0, 5] (fun r' i => ∃ (k : Nat), k ≤ 8 ∧ i = .int .i64 k ∧ r' = .int .u32 (regN k (r ^^^ b.toUInt32)).toNat) (fun _ i => 8 - (intOf i).toNat)
  case atStart =>
    have hb := b.toNat_lt
    have e : (b.toNat : Int) % 4294967296 = b.toNat := by omega
    exact ⟨0, by omega, rfl, by rw [e, xor_u32_u8]; rfl⟩
  case round =>
    obtain ⟨k, hk, rfl, rfl⟩ := hrel
    go_wp2
    · go_round
      case rel => exact ⟨k + 1, by omega, by go_num, by rw [regN_snoc, regStep_odd_val _ ‹_›]⟩
      case measure => simp [intOf]; omega
    · go_round
      case rel => exact ⟨k + 1, by omega, by go_num, by rw [regN_snoc, ← regStep_even_val _ ‹_›]⟩
      case measure => simp [intOf]; omega
    · go_ret
      obtain rfl : k = 8 := by omega
      exact ⟨rfl, rfl⟩

end Go.Proofs.Ytejoofeoffehmaa

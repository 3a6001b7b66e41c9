/- Contracts: the register of the reference, the reference's Combine. -/
import Derived.Test.YtphackphganglaaRows
import Derived.Test.YtphackphganglaaBase
import Derived.Test.YtphackphganglaaCrc
namespace Go.Proofs.Ytphackphganglaa
open Go.RowKit

theorem regStep_odd_val (x : UInt32) (h : ((x.toNat : Int) % 2 == 1) = true) : bits .xor .u32 ((x.toNat : Int) / 2) 2197175160 = ((regStep x).toNat : Int) := by
  have e : x % 2 = 1 := by
    apply UInt32.toNat_inj.1
    rw [UInt32.toNat_mod]
    simp at h ⊢
    omega
  rw [u32_half, regStep, if_pos e]
  exact bits_xor_u32 _ 2197175160
theorem regStep_even_val (x : UInt32) (h : ((x.toNat : Int) % 2 == 1) = false) : (x.toNat : Int) / 2 = ((regStep x).toNat : Int) := by
  have e : ¬ x % 2 = 1 := by
    intro e
    have := congrArg UInt32.toNat e
    rw [UInt32.toNat_mod] at this
    simp at h this
    omega
  rw [u32_half, regStep, if_neg e]
theorem xor_u32_u8 (r : UInt32) (b : UInt8) : bits .xor .u32 (r.toNat : Int) (b.toNat : Int) = ((r ^^^ b.toUInt32).toNat : Int) := by
  rw [← bits_xor_u32]; simp

set_option maxHeartbeats 400000 in
theorem register_any (r : UInt32) (b : UInt8) (w : World) :
    Calls Try.prog 22 #[.int .u32 r.toNat, .int .u8 b.toNat] w fun e w' => e = .returned (.int .u32 (reg r b).toNat) ∧ w = w' := by
  go_enter Try.func22, Try.ntmps22
  go_wp2
  go_loop [0, 5] (fun r' i => ∃ (k : Nat), k ≤ 8 ∧ i = .int .i64 k ∧ r' = .int .u32 (regN k (r ^^^ b.toUInt32)).toNat) (fun _ i => 8 - (intOf i).toNat)
  case atStart =>
    have hb := b.toNat_lt
    have e : (b.toNat : Int) % 4294967296 = b.toNat := by omega
    exact ⟨0, by omega, rfl, by rw [e, xor_u32_u8]; rfl⟩
  case round =>
    obtain ⟨k, hk, rfl, rfl⟩ := hrel
    go_wp2
    · go_round
      case rel => exact ⟨k + 1, by omega, by go_num, by rw [regN_snoc, regStep_odd_val _ ‹_›]⟩
      case measure => simp [intOf]; omega
    · go_round
      case rel => exact ⟨k + 1, by omega, by go_num, by rw [regN_snoc, ← regStep_even_val _ ‹_›]⟩
      case measure => simp [intOf]; omega
    · go_ret
      obtain rfl : k = 8 := by omega
      exact ⟨rfl, rfl⟩

set_option maxHeartbeats 400000 in
theorem refcombine_out (a b : UInt32) (n : Int) (w : World) (h0 : n < 0 ∨ 65536 < n) :
    Calls Try.prog 12 #[.int .u32 a.toNat, .int .u32 b.toNat, .int .i64 n] w fun e w' => e = .returned (.int .u32 0) ∧ Below w.heap.size w w' := by
  rcases h0 with h0 | h0
  · go_enter Try.func12, Try.ntmps12
    go_wp2_with fail
    go_ret
    exact ⟨rfl, Below.refl _ _⟩
  · have h1 : ¬ n < 0 := by omega
    go_enter Try.func12, Try.ntmps12
    go_wp2_with fail
    go_ret
    exact ⟨rfl, Below.refl _ _⟩

theorem zero_u8 : Value.int .u8 0 = .int .u8 ((0 : UInt8).toNat : Int) := rfl

set_option maxRecDepth 100000 in
set_option maxHeartbeats 1000000 in
theorem refcombine_in (a b : UInt32) (n : Nat) (w : World) (h0 : n ≤ 65536) :
    Calls Try.prog 12 #[.int .u32 a.toNat, .int .u32 b.toNat, .int .i64 n] w fun e w' => e = .returned (.int .u32 (combN n a ^^^ b).toNat) ∧ Below w.heap.size w w' := by
  have h1 : ¬ (n : Int) < 0 := by omega
  have h2 : ¬ (65536 : Int) < n := by omega
  go_enter Try.func12, Try.ntmps12
  go_wp2_with fail
  go_loop [0, 7] (fun r i => ∃ k : Nat, k ≤ n ∧ i = .int .i64 k ∧ r = .int .u32 (combN k a).toNat) (fun _ i => n - (intOf i).toNat)
  case atStart => exact ⟨0, Nat.zero_le _, rfl, rfl⟩
  case round =>
    obtain ⟨k, hk, rfl, rfl⟩ := hrel
    by_cases hlt : k < n
    · have HS := Lib.hid (combN_snoc k a)
      generalize combN k a = r at HS ⊢
      go_wp2_with (go_at_call 22; rw [zero_u8]; refine (register_any _ _ _).mono ?_; rintro e w1 ⟨rfl, rfl⟩)
      go_round
      case rel => exact ⟨k + 1, by omega, by go_num, by rw [HS.out]⟩
      case measure => simp [intOf]; omega
    · obtain rfl : k = n := by omega
      go_wp2_with fail
      go_ret
      exact ⟨ret_int (by simp), Below.refl _ _⟩
end Go.Proofs.Ytphackphganglaa

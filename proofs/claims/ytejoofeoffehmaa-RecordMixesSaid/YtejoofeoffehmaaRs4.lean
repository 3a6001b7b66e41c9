/- Contracts: Update and Sum of the reference. -/
import Derived.Test.YtejoofeoffehmaaRows
import Derived.Test.YtejoofeoffehmaaCk3
namespace Go.Proofs.Ytejoofeoffehmaa
open Go.RowKit

set_option maxHeartbeats 400000 in
theorem refupdate_any (sum : UInt32) (A : Option Addr) (c : Nat) (xs : List UInt8) (w : World) (hR : RB w w.heap.size A xs) (hl : xs.length ≤ maxLen) :
    Calls Try.prog 36 #[.int .u32 sum.toNat, .slice A xs.length c] w fun e w' => e = .returned (.int .u32 (upd sum xs).toNat) ∧ Below w.heap.size w w' := by
  have HR := Lib.hid hR
  clear hR
  unfold maxLen at hl
  go_enter Try.func36, Try.ntmps36
  go_wp2_with fail
  rw [not_u32]
  generalize hz : sum ^^^ 4294967295 = z
  have HZ := Lib.hid hz
  clear hz
  go_loopw [5, 6] (fun r i wr => wr = w ∧ ∃ k : Nat, k ≤ xs.length ∧ i = .int .i64 k ∧ r = .int .u32 (regs z (xs.take k)).toNat) (fun _ i _ => xs.length - (intOf i).toNat)
  case atStart => exact ⟨rfl, 0, Nat.zero_le _, rfl, rfl⟩
  case round =>
    obtain ⟨rfl, k, hk, rfl, rfl⟩ := hrel
    by_cases hlt : k < xs.length
    · obtain ⟨b0, o0, hA, _, hc⟩ := HR.out.at_ hlt
      subst hA
      have hsn : regs z (xs.take (k + 1)) = reg (regs z (xs.take k)) xs[k] := by
        rw [List.take_succ_eq_append_getElem hlt, regs_snoc]
      have HS := Lib.hid hsn
      clear hsn
      generalize regs z (xs.take k) = r at HS ⊢
      generalize xs[k] = x at hc HS
      go_wp2_with (go_at_call 45; refine (register_any r x _).mono ?_; rintro e w1 ⟨rfl, rfl⟩)
      go_roundw
      case rel => exact ⟨trivial, k + 1, by omega, by go_num, by rw [HS.out]⟩
      case measure => simp [intOf]; omega
    · obtain rfl : k = xs.length := by omega
      rw [List.take_length]
      go_wp2_with fail
      go_ret
      exact ⟨ret_int (by rw [not_u32, upd, HZ.out]), Below.refl _ _⟩

set_option maxHeartbeats 400000 in
theorem refsum_n (A : Option Addr) (n c : Nat) (xs : List UInt8) (w : World) (hR : RB w w.heap.size A xs) (hn : xs.length = n) (hl : n ≤ maxLen) :
    Calls Try.prog 28 #[.slice A n c] w fun e w' => e = .returned (.int .u32 (upd 0 xs).toNat) ∧ Below w.heap.size w w' := by
  subst hn
  have H := Lib.hid hR
  clear hR
  go_enter Try.func28, Try.ntmps28
  go_wp2_with (go_at_call 36; refine (refupdate_any 0 _ _ _ _ H.out hl).mono ?_; rintro e w1 ⟨rfl, hB1⟩)
  go_ret
  exact ⟨rfl, hB1⟩
end Go.Proofs.Ytejoofeoffehmaa

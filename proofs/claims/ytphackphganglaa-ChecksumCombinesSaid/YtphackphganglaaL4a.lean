/- ChecksumCombines: the walk. -/
import Derived.Test.YtphackphganglaaAw4
namespace Go.Proofs.Ytphackphganglaa
open Go.RowKit

set_option maxHeartbeats 1000000 in
theorem law_ChecksumCombines (a b : UInt32) (n : Int) (_hn : -9223372036854775808 ≤ n ∧ n ≤ 9223372036854775807) {w : World} :
    Calls Try.prog 3 #[.int .u32 a.toNat, .int .u32 b.toNat, .int .i64 n] w fun e w' => e = .returned (.bool true) ∧ Below w.heap.size w w' := by
  clear _hn
  by_cases h1 : 5000 < n
  · by_cases h2 : n ≤ 65536
    · go_enter Try.func3, Try.ntmps3
      go_wp2_with (go_at_call 10; refine (awake_any _).mono ?_; rintro e w1 ⟨rfl, hB1⟩)
      go_ret
      exact ⟨rfl, hB1⟩
    · go_enter Try.func3, Try.ntmps3
      go_wp2_with (first
        | (go_at_call 10; refine (awake_any _).mono ?_; rintro e w1 ⟨rfl, hB1⟩)
        | (go_at_call 11; refine (combine_out a b n _ (.inr (by omega))).mono ?_; rintro e w2 ⟨rfl, hB2⟩)
        | (go_at_call 12; refine (refcombine_out a b n _ (.inr (by omega))).mono ?_; rintro e w3 ⟨rfl, hB3⟩))
      go_ret
      exact ⟨rfl, below_then hB1 (below_then hB2 hB3)⟩
  · by_cases h0 : n < 0
    · go_enter Try.func3, Try.ntmps3
      go_wp2_with (first
        | (go_at_call 10; refine (awake_any _).mono ?_; rintro e w1 ⟨rfl, hB1⟩)
        | (go_at_call 11; refine (combine_out a b n _ (.inl (by omega))).mono ?_; rintro e w2 ⟨rfl, hB2⟩)
        | (go_at_call 12; refine (refcombine_out a b n _ (.inl (by omega))).mono ?_; rintro e w3 ⟨rfl, hB3⟩))
      go_ret
      exact ⟨rfl, below_then hB1 (below_then hB2 hB3)⟩
    · obtain ⟨m, rfl⟩ : ∃ m : Nat, n = (m : Int) := ⟨n.toNat, by omega⟩
      go_enter Try.func3, Try.ntmps3
      go_wp2_with (first
        | (go_at_call 10; refine (awake_any _).mono ?_; rintro e w1 ⟨rfl, hB1⟩)
        | (go_at_call 11; refine (combine_in a b m _ (by omega)).mono ?_; rintro e w2 ⟨rfl, hB2⟩)
        | (go_at_call 12; refine (refcombine_in a b m _ (by omega)).mono ?_; rintro e w3 ⟨rfl, hB3⟩))
      go_ret
      exact ⟨rfl, below_then hB1 (below_then hB2 hB3)⟩
end Go.Proofs.Ytphackphganglaa

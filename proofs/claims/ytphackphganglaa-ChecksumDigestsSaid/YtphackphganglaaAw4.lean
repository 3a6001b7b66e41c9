/- Contract: the chapter's examples hold. -/
import Derived.Test.YtphackphganglaaCk3
import Derived.Test.YtphackphganglaaDg2
import Derived.Lib.SlBytesConst
namespace Go.Proofs.Ytphackphganglaa
open Go.RowKit

theorem rb_new (w : World) (t : TypeId) (fr : Nat × Nat) (xs : List UInt8) (C : Array Value) (hC : C = (xs.map u8v).toArray) (B : Nat) (hB : w.heap.size < B) : RB (w.alloc (.cells C t fr)) B (some ⟨w.heap.size, 0, none⟩) xs := by
  subst hC
  refine ⟨by simp, fun _ => ⟨w.heap.size, 0, rfl, hB, fun j v hv => ?_⟩⟩
  rw [World.cell?_alloc_mark]
  simpa using hv

theorem sum_nine (w : World) (c : Nat) (A : Option Addr) (hR : RB w w.heap.size A [49, 50, 51, 52, 53, 54, 55, 56, 57]) :
    Calls Try.prog 13 #[.slice A 9 c] w fun e w' => e = .returned (.int .u32 3808858755) ∧ Below w.heap.size w w' :=
  (sum_any A c [49, 50, 51, 52, 53, 54, 55, 56, 57] w hR (by decide)).mono fun e w' ⟨h, hB⟩ => ⟨by rw [h]; exact ret_int (by kernel_rfl), hB⟩
theorem sum_nil (w : World) : Calls Try.prog 13 #[.slice none 0 0] w fun e w' => e = .returned (.int .u32 0) ∧ Below w.heap.size w w' :=
  (sum_any none 0 [] w RB.nil_ (by decide)).mono fun e w' ⟨h, hB⟩ => ⟨by rw [h]; exact ret_int (by kernel_rfl), hB⟩
theorem comb_ex (w : World) : Calls Try.prog 11 #[.int .u32 1383945041, .int .u32 0, .int .i64 0] w fun e w' => e = .returned (.int .u32 1383945041) ∧ Below w.heap.size w w' :=
  (combine_in 1383945041 0 0 w (by decide)).mono fun e w' ⟨h, hB⟩ => ⟨by rw [h]; exact ret_int (by kernel_rfl), hB⟩
theorem digest_nil (w : World) : Calls Try.prog 15 #[.slice none 0 0] w fun e w' => e = .returned (.int .u64 14695981038468906945) ∧ Below w.heap.size w w' :=
  (digest_any none 0 [] w RB.nil_ (by decide)).mono fun e w' ⟨h, hB⟩ => ⟨by rw [h]; exact ret_int (by kernel_rfl), hB⟩
theorem digest_a (w : World) (c : Nat) (A : Option Addr) (hR : RB w w.heap.size A [97]) :
    Calls Try.prog 15 #[.slice A 1 c] w fun e w' => e = .returned (.int .u64 12638187199001669824) ∧ Below w.heap.size w w' :=
  (digest_any A c [97] w hR (by decide)).mono fun e w' ⟨h, hB⟩ => ⟨by rw [h]; exact ret_int (by kernel_rfl), hB⟩

set_option maxRecDepth 100000 in
set_option maxHeartbeats 1000000 in
theorem awake_any (w : World) : Calls Try.prog 10 #[] w fun e w' => e = .returned (.bool true) ∧ Below w.heap.size w w' := by
  have kc := fun (w : World) (C : Array Value) (n c : Nat) => Lib.run_convert_bytes_const (P := Try.prog) w 26 5 C n c Try.underlying26 Try.underlying5
  go_enter Try.func10, Try.ntmps10
  go_wp2_with fail
  refine (sum_nine _ _ _ (rb_new w _ _ [49, 50, 51, 52, 53, 54, 55, 56, 57] _ rfl _ (by simp))).mono ?_
  rintro e w1 ⟨rfl, hB1⟩
  go_wp2_with fail
  refine (sum_nil _).mono ?_
  rintro e w2 ⟨rfl, hB2⟩
  go_wp2_with fail
  refine (comb_ex _).mono ?_
  rintro e w3 ⟨rfl, hB3⟩
  go_wp2_with fail
  refine (digest_nil _).mono ?_
  rintro e w4 ⟨rfl, hB4⟩
  go_wp2_with fail
  refine (digest_a _ _ _ (rb_new w4 _ _ [97] _ rfl _ (by simp))).mono ?_
  rintro e w5 ⟨rfl, hB5⟩
  go_wp2_with fail
  go_ret
  refine ⟨rfl, ?_⟩
  refine below_then ((Below.refl _ w).alloc (Nat.le_refl _) _) (below_then hB1 (below_then hB2 (below_then hB3 (below_then hB4 (below_then ((Below.refl _ w4).alloc (Nat.le_refl _) _) hB5)))))
end Go.Proofs.Ytphackphganglaa

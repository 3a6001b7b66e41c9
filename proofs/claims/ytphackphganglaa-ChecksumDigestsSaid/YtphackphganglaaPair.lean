/- Contract: Pair. -/
import Derived.Test.YtphackphganglaaRf4
import Derived.Test.YtphackphganglaaDg2
namespace Go.Proofs.Ytphackphganglaa
open Go.RowKit

def pairAt (a b : UInt64) (k i : Nat) : Value := if i % 8 < k then u8v (if i < 8 then leB a i else leB b (i - 8)) else .int .u8 0
def pairTo (a b : UInt64) (k : Nat) : Array Value := ((List.range 16).map (pairAt a b k)).toArray
theorem pairTo_size (a b : UInt64) (k : Nat) : (pairTo a b k).size = 16 := by simp [pairTo]
theorem pairTo_get (a b : UInt64) (k i : Nat) (h : i < 16) : (pairTo a b k)[i]? = some (pairAt a b k i) := by simp [pairTo, h]
theorem pairTo_succ (a b : UInt64) (k : Nat) (hk : k < 8) : ((pairTo a b k).setIfInBounds k (u8v (leB a k))).setIfInBounds (8 + k) (u8v (leB b k)) = pairTo a b (k + 1) := by
  apply Array.ext_getElem?
  intro i
  rw [Array.getElem?_setIfInBounds, Array.getElem?_setIfInBounds, Array.size_setIfInBounds, pairTo_size]
  by_cases hi : i < 16
  · rw [pairTo_get _ _ _ _ hi, pairTo_get _ _ _ _ hi]
    by_cases e1 : 8 + k = i
    · subst e1
      rw [if_pos rfl, if_pos (by omega)]
      have h1 : (8 + k) % 8 < k + 1 := by omega
      have h2 : ¬ 8 + k < 8 := by omega
      have h3 : 8 + k - 8 = k := by omega
      rw [pairAt, if_pos h1, if_neg h2, h3]
    · rw [if_neg e1]
      by_cases e2 : k = i
      · subst e2
        rw [if_pos rfl, if_pos (by omega)]
        have h1 : k % 8 < k + 1 := by omega
        rw [pairAt, if_pos h1, if_pos hk]
      · rw [if_neg e2]
        unfold pairAt
        by_cases h1 : i % 8 < k
        · have h2 : i % 8 < k + 1 := by omega
          rw [if_pos h1, if_pos h2]
        · have h2 : ¬ i % 8 < k + 1 := by omega
          rw [if_neg h1, if_neg h2]
  · rw [if_neg (by omega), if_neg (by omega), Array.getElem?_eq_none (by rw [pairTo_size]; omega), Array.getElem?_eq_none (by rw [pairTo_size]; omega)]
theorem pairTo_done (a b : UInt64) : (pairTo a b 8).toList = (pairBytes a b).map u8v := by
  simp [pairTo, pairBytes, leBs, List.range_succ, pairAt]
theorem zeroPair0 (w : World) : (zeroValue 54).run Try.prog w = .ok (.agg #[.int .u8 0, .int .u8 0, .int .u8 0, .int .u8 0, .int .u8 0, .int .u8 0, .int .u8 0, .int .u8 0, .int .u8 0, .int .u8 0, .int .u8 0, .int .u8 0, .int .u8 0, .int .u8 0, .int .u8 0, .int .u8 0]) w := by kernel_rfl
theorem zeroPair (a b : UInt64) (w : World) : (zeroValue 54).run Try.prog w = .ok (.agg (pairTo a b 0)) w := by
  have h : pairTo a b 0 = #[.int .u8 0, .int .u8 0, .int .u8 0, .int .u8 0, .int .u8 0, .int .u8 0, .int .u8 0, .int .u8 0, .int .u8 0, .int .u8 0, .int .u8 0, .int .u8 0, .int .u8 0, .int .u8 0, .int .u8 0, .int .u8 0] := by
    simp [pairTo, List.range_succ, pairAt]
  rw [h]
  exact zeroPair0 w

attribute [local irreducible] Blk pairTo
set_option maxRecDepth 100000 in
set_option maxHeartbeats 1000000 in
theorem pair_any (a b : UInt64) (w : World) :
    Calls Try.prog 19 #[.int .u64 a.toNat, .int .u64 b.toNat] w fun e w' => e = .returned (.int .u64 (dig (pairBytes a b)).toNat) ∧ Below w.heap.size w w' := by
  have hz := zeroPair a b
  go_enter Try.func19, Try.ntmps19
  go_wp2_with fail
  clear hz
  go_loopw [7] (fun i wr => ∃ (k : Nat), k ≤ 8 ∧ i = .int .i64 k ∧ Blk wr w.heap.size 54 (pairTo a b k) ∧ Below w.heap.size w wr) (fun i _ => 8 - (intOf i).toNat)
  case atStart => exact ⟨0, by omega, rfl, Blk.new _ _ _, (Below.refl _ w).alloc (Nat.le_refl _) _⟩
  case round =>
    obtain ⟨k, hk, rfl, hb, hB⟩ := hrel
    by_cases hlt : k < 8
    · obtain ⟨v1, hv1⟩ := hb.cell_ex (i := k) (by rw [pairTo_size]; omega)
      obtain ⟨v2, hv2⟩ := hb.cell_ex (i := 8 + k) (by rw [pairTo_size]; omega)
      have hf1 := hb.frozen k
      have hf2 := hb.frozen (8 + k)
      have hs := pairTo_succ a b k hlt
      have HS := Lib.hid hs
      have he1 := leB_val a k
      have he2 := leB_val b k
      have hb2 := (hb.set_ k (u8v (leB a k))).set_ (8 + k) (u8v (leB b k))
      have HB2 := Lib.hid hb2
      clear hs hb2
      have h0 : (0 : Int) ≤ (k : Int) := by omega
      have h8 : (k : Int) < 8 := by omega
      go_wp2_with fail
      go_region
      go_wp2_with fail
      go_roundw
      case rel => exact ⟨k + 1, by omega, by go_num, by rw [← HS.out]; exact HB2.out.drew, ((hB.setCell (p := ⟨w.heap.size, k, none⟩) (Nat.le_refl _) _).setCell (p := ⟨w.heap.size, 8 + k, none⟩) (Nat.le_refl _) _).drew⟩
      case measure => simp [intOf]; omega
    · obtain rfl : k = 8 := by omega
      have hR : RB wr wr.heap.size (some ⟨w.heap.size, 0, none⟩) (pairBytes a b) := by
        refine ⟨by simp, fun _ => ⟨w.heap.size, 0, rfl, hb.lt, fun j v hv => ?_⟩⟩
        rw [hb.cell, ← pairTo_done] at *
        simpa using hv
      have HR := Lib.hid hR
      clear hR
      go_wp2_with fail
      refine (digest_n _ _ _ (pairBytes a b) _ HR.out (by simp [pairBytes, leBs_length]) (by decide)).mono ?_
      rintro e w2 ⟨rfl, hB4⟩
      go_wp2_with fail
      go_ret
      exact ⟨rfl, below_next hB hB4⟩
end Go.Proofs.Ytphackphganglaa

/- ChecksumDigests: the walk. -/
import Derived.Test.YtphackphganglaaAw4
import Derived.Test.YtphackphganglaaDg3
import Derived.Test.YtphackphganglaaPair
import Derived.Deep.RegionHeld3
namespace Go.Proofs.Ytphackphganglaa
open Go.RowKit

set_option maxHeartbeats 4000000 in
theorem digests_small (A : Option Addr) (c : Nat) (xs : List UInt8) (B : Option Addr) (d : Nat) (ss : List Sec) (a b : UInt64) (w : World) (hx : xs.length ≤ 5000) (hs : ss.length ≤ 600) (rx : RB w w.heap.size A xs) (rs : RS w w.heap.size B ss) :
    Calls Try.prog 8 #[.agg #[.slice A xs.length c, .slice B ss.length d, .int .u64 a.toNat, .int .u64 b.toNat]] w fun e w' => e = .returned (.bool true) ∧ Below w.heap.size w w' := by
  have h1 : ¬ 5000 < xs.length := by omega
  have h2 : ¬ 600 < ss.length := by omega
  obtain ⟨W, hW⟩ : ∃ W, w.alloc (.cells #[.slice A xs.length c, .slice B ss.length d, .int .u64 a.toNat, .int .u64 b.toNat] 39) = W := ⟨_, rfl⟩
  have hB0 : Below w.heap.size w W := by rw [← hW]; exact (Below.refl _ w).alloc (Nat.le_refl _) _
  have hblk : Blk W w.heap.size 39 #[.slice A xs.length c, .slice B ss.length d, .int .u64 a.toNat, .int .u64 b.toNat] := by rw [← hW]; exact Blk.new _ _ _
  have k0 := hblk.cell_of (i := 0) rfl
  have k1 := hblk.cell_of (i := 1) rfl
  have k2 := hblk.cell_of (i := 2) rfl
  have k3 := hblk.cell_of (i := 3) rfl
  have hlt := hblk.lt
  have HX := Lib.hid (rx.later hB0)
  have HS := Lib.hid (rs.later hB0)
  have HW := Lib.hid hW
  clear rx rs hblk
  go_enter Try.func8, Try.ntmps8
  go_wp2_with fail
  clear hW
  have hbr := Below.refl W.heap.size W
  have kk0 : ∀ w', Below W.heap.size W w' → w'.cell? ⟨w.heap.size, 0, none⟩ = some (.slice A xs.length c) := fun w' h => (h.cell (p := ⟨w.heap.size, 0, none⟩) hlt).trans k0
  have kk1 : ∀ w', Below W.heap.size W w' → w'.cell? ⟨w.heap.size, 1, none⟩ = some (.slice B ss.length d) := fun w' h => (h.cell (p := ⟨w.heap.size, 1, none⟩) hlt).trans k1
  have kk2 : ∀ w', Below W.heap.size W w' → w'.cell? ⟨w.heap.size, 2, none⟩ = some (.int .u64 a.toNat) := fun w' h => (h.cell (p := ⟨w.heap.size, 2, none⟩) hlt).trans k2
  have kk3 : ∀ w', Below W.heap.size W w' → w'.cell? ⟨w.heap.size, 3, none⟩ = some (.int .u64 b.toNat) := fun w' h => (h.cell (p := ⟨w.heap.size, 3, none⟩) hlt).trans k3
  clear k0 k1 k2 k3
  go_region_held3 (fun w' => Below W.heap.size W w')
    (first | assumption | exact hbr.drew)
    (first
      | (go_at_call 10; refine (awake_any _).mono ?_; rintro e w5 ⟨rfl, hB5⟩; have hN : Below W.heap.size W w5 := below_next (by assumption) hB5)
      | (go_at_call 15; refine (digest_n A _ c xs _ (HX.out.later (by assumption)) rfl (by simp only [maxLen]; omega)).mono ?_; rintro e w6 ⟨rfl, hB6⟩; have hN : Below W.heap.size W w6 := below_next (by assumption) hB6)
      | (go_at_call 16; refine (refdigest_n A _ c xs _ (HX.out.later (by assumption)) rfl (by simp only [maxLen]; omega)).mono ?_; rintro e w7 ⟨rfl, hB7⟩; have hN : Below W.heap.size W w7 := below_next (by assumption) hB7)
      | (go_at_call 17; refine (sectors_n B _ d ss _ (HS.out.later (by assumption)) rfl (by simp only [maxLen]; omega)).mono ?_; rintro e w8 ⟨rfl, hB8⟩; have hN : Below W.heap.size W w8 := below_next (by assumption) hB8)
      | (go_at_call 18; refine (refsectors_n B _ d ss _ (HS.out.later (by assumption)) rfl (by omega)).mono ?_; rintro e w9 ⟨rfl, hB9⟩; have hN : Below W.heap.size W w9 := below_next (by assumption) hB9)
      | (go_at_call 19; refine (pair_any a b _).mono ?_; rintro e w10 ⟨rfl, hB10⟩; have hN : Below W.heap.size W w10 := below_next (by assumption) hB10)
      | (go_at_call 20; refine (refpair_any a b _).mono ?_; rintro e w11 ⟨rfl, hB11⟩; have hN : Below W.heap.size W w11 := below_next (by assumption) hB11))
  go_wp2_with fail
  go_ret
  exact ⟨rfl, below_next hB0 hN⟩

set_option maxHeartbeats 1000000 in
theorem digests_big (A : Option Addr) (c : Nat) (xs : List UInt8) (B : Option Addr) (d : Nat) (ss : List Sec) (a b : UInt64) (w : World) (hx : xs.length ≤ 9223372036854775807) (hs : ss.length ≤ 9223372036854775807) (hb : 5000 < xs.length ∨ 600 < ss.length) :
    Calls Try.prog 8 #[.agg #[.slice A xs.length c, .slice B ss.length d, .int .u64 a.toNat, .int .u64 b.toNat]] w fun e w' => e = .returned (.bool true) ∧ Below w.heap.size w w' := by
  by_cases h1 : 5000 < xs.length
  · clear hb
    go_enter Try.func8, Try.ntmps8
    go_wp2_with (go_at_call 10; refine (awake_any _).mono ?_; rintro e w1 ⟨rfl, hB1⟩)
    go_ret
    exact ⟨rfl, below_next ((Below.refl _ w).alloc (Nat.le_refl _) _) hB1⟩
  · have h2 : 600 < ss.length := by omega
    clear hb
    go_enter Try.func8, Try.ntmps8
    go_wp2_with (go_at_call 10; refine (awake_any _).mono ?_; rintro e w1 ⟨rfl, hB1⟩)
    go_ret
    exact ⟨rfl, below_next ((Below.refl _ w).alloc (Nat.le_refl _) _) hB1⟩

theorem law_ChecksumDigests {w : World} (A : Option Addr) (c : Nat) (xs : List UInt8) (lx : xs.length ≤ c) (mx : c ≤ maxLen) (rx : RB w w.heap.size A xs) (B : Option Addr) (d : Nat) (ss : List Sec) (ls : ss.length ≤ d) (ms : d ≤ maxLen) (rs : RS w w.heap.size B ss) (a b : UInt64) :
    Calls Try.prog 8 #[.agg #[.slice A xs.length c, .slice B ss.length d, .int .u64 a.toNat, .int .u64 b.toNat]] w fun e w' => e = .returned (.bool true) ∧ Below w.heap.size w w' := by
  unfold maxLen at mx ms
  by_cases h : 5000 < xs.length ∨ 600 < ss.length
  · exact digests_big A c xs B d ss a b w (by omega) (by omega) h
  · exact digests_small A c xs B d ss a b w (by omega) (by omega) rx rs
end Go.Proofs.Ytphackphganglaa

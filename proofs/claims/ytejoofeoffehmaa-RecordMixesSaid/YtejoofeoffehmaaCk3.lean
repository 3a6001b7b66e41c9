/- Contracts: Update, Sum, Combine of the program, and Combine of the reference. -/
import Derived.Test.YtejoofeoffehmaaRows
import Derived.Test.YtejoofeoffehmaaBase
import Derived.Test.YtejoofeoffehmaaMem
import Derived.Test.YtejoofeoffehmaaCrc
import Derived.Test.YtejoofeoffehmaaCk1
import Derived.Test.YtejoofeoffehmaaCk2
namespace Go.Proofs.Ytejoofeoffehmaa
open Go.RowKit

/-- What a round needs of the table: the place, what lies there, and what comes of it. -/
theorem table_round (r : UInt32) (x : UInt8) : ∃ j t : Nat, j < 256 ∧ bits .xor .u8 ((r.toNat : Int) % (256 : Int)) (x.toNat : Int) = (j : Int) ∧ tab[j]? = some (.int .u32 (t : Int)) ∧ bits .xor .u32 ((r.toNat : Int) / (256 : Int)) (t : Int) = ((reg r x).toNat : Int) := by
  have hj : (r.toUInt8 ^^^ x).toNat < 256 := (r.toUInt8 ^^^ x).toNat_lt
  refine ⟨(r.toUInt8 ^^^ x).toNat, (regN 8 (r.toUInt8 ^^^ x).toUInt32).toNat, hj, xor_u8_of_u32 r x, ?_, ?_⟩
  · rw [tab_get _ hj, tabAt]
    have e : UInt32.ofNat (r.toUInt8 ^^^ x).toNat = (r.toUInt8 ^^^ x).toUInt32 := by
      apply UInt32.toNat_inj.1
      rw [UInt32.toNat_ofNat_of_lt' (Nat.lt_trans hj (by decide))]
      simp
    rw [e]
  · rw [xor_shr8, reg_table]

attribute [local irreducible] Blk tab tabTo RB
set_option maxRecDepth 100000 in
set_option maxHeartbeats 1000000 in
theorem update_any (sum : UInt32) (A : Option Addr) (c : Nat) (xs : List UInt8) (w : World) (hR : RB w w.heap.size A xs) (hl : xs.length ≤ maxLen) :
    Calls Try.prog 34 #[.int .u32 sum.toNat, .slice A xs.length c] w fun e w' => e = .returned (.int .u32 (upd sum xs).toNat) ∧ Below w.heap.size w w' := by
  have hz := zeroTab
  unfold maxLen at hl
  go_enter Try.func34, Try.ntmps34
  go_wp2_with (first
    | (go_at_call 44; refine (registers_any _).mono ?_; rintro e w1 ⟨rfl, hB1⟩)
    | (refine wpList_store_row rfl 83 _ _ rfl w1.heap.size tab rfl rfl 83 tab0 (Blk.new w1 _ _).row tab_info (by rw [tab_size]; exact tabTo_size _) tab_all ?_))
  clear hz
  have hB2 : Below w.heap.size w ((w1.alloc (.cells tab0 83)).setRow w1.heap.size tab) := below_setRow (hB1.alloc hB1.size _) hB1.size _
  have hb2 := (Blk.new w1 83 tab0).setRow_ tab
  have hR2 := hR.below hB2
  rw [not_u32]
  go_loop [6, 14] (fun r i => ∃ k : Nat, k ≤ xs.length ∧ i = .int .i64 k ∧ r = .int .u32 (regs (sum ^^^ 4294967295) (xs.take k)).toNat) (fun _ i => xs.length - (intOf i).toNat)
  case atStart => exact ⟨0, Nat.zero_le _, rfl, rfl⟩
  case round =>
    obtain ⟨k, hk, rfl, rfl⟩ := hrel
    by_cases hlt : k < xs.length
    · obtain ⟨b0, o0, hA, hadb, hc⟩ := hR2.at_ hlt
      subst hA
      have hsn : regs (sum ^^^ 4294967295) (xs.take (k + 1)) = reg (regs (sum ^^^ 4294967295) (xs.take k)) xs[k] := by
        rw [List.take_succ_eq_append_getElem hlt, regs_snoc]
      have HS := Lib.hid hsn
      clear hsn
      generalize regs (sum ^^^ 4294967295) (xs.take k) = r at HS ⊢
      obtain ⟨j, t, hj, hj1, ht, hrt⟩ := table_round r xs[k]
      have hct := hb2.cell_of ht
      generalize xs[k] = x at hc hj1 hrt HS
      have HT := Lib.hid hrt
      have HT2 := Lib.hid ht
      clear hrt ht
      go_wp2
      go_round
      case rel => exact ⟨k + 1, by omega, by go_num, by rw [HS.out, HT.out]⟩
      case measure => simp [intOf]; omega
    · obtain rfl : k = xs.length := by omega
      go_wp2
      go_ret
      exact ⟨ret_int (not_u32 _), hB2⟩

set_option maxHeartbeats 400000 in
theorem sum_any (A : Option Addr) (c : Nat) (xs : List UInt8) (w : World) (hR : RB w w.heap.size A xs) (hl : xs.length ≤ maxLen) :
    Calls Try.prog 24 #[.slice A xs.length c] w fun e w' => e = .returned (.int .u32 (upd 0 xs).toNat) ∧ Below w.heap.size w w' := by
  have H := Lib.hid hR
  clear hR
  go_enter Try.func24, Try.ntmps24
  go_wp2_with (go_at_call 34; refine (update_any 0 _ _ _ _ H.out hl).mono ?_; rintro e w1 ⟨rfl, hB1⟩)
  go_ret
  exact ⟨rfl, hB1⟩

theorem update_n (sum : UInt32) (A : Option Addr) (n c : Nat) (xs : List UInt8) (w : World) (hR : RB w w.heap.size A xs) (hn : xs.length = n) (hl : n ≤ maxLen) :
    Calls Try.prog 34 #[.int .u32 sum.toNat, .slice A n c] w fun e w' => e = .returned (.int .u32 (upd sum xs).toNat) ∧ Below w.heap.size w w' := by
  subst hn; exact update_any sum A c xs w hR hl
theorem sum_n (A : Option Addr) (n c : Nat) (xs : List UInt8) (w : World) (hR : RB w w.heap.size A xs) (hn : xs.length = n) (hl : n ≤ maxLen) :
    Calls Try.prog 24 #[.slice A n c] w fun e w' => e = .returned (.int .u32 (upd 0 xs).toNat) ∧ Below w.heap.size w w' := by
  subst hn; exact sum_any A c xs w hR hl

end Go.Proofs.Ytejoofeoffehmaa

/- Contract: the table of the registers behind each byte. -/
import Derived.Test.YtejoofeoffehmaaRows
import Derived.Test.YtejoofeoffehmaaBase
import Derived.Test.YtejoofeoffehmaaMem
import Derived.Test.YtejoofeoffehmaaCrc
namespace Go.Proofs.Ytejoofeoffehmaa
open Go.RowKit

def tabAt (i : Nat) : Value := .int .u32 ((regN 8 (UInt32.ofNat i)).toNat : Int)
def tabTo (k : Nat) : Array Value := ((List.range 256).map fun i => if i < k then tabAt i else .int .u32 0).toArray
def tab0 : Array Value := tabTo 0
/-- The table. -/
def tab : Array Value := tabTo 256
theorem zeroTab (w : World) : (zeroValue 83).run Try.prog w = .ok (.agg tab0) w := by kernel_rfl
theorem tabTo_size (k : Nat) : (tabTo k).size = 256 := by simp [tabTo]
theorem tabTo_get (k i : Nat) (h : i < 256) : (tabTo k)[i]? = some (if i < k then tabAt i else .int .u32 0) := by
  simp [tabTo, h]
theorem tabTo_succ (k : Nat) (_hk : k < 256) : (tabTo k).setIfInBounds k (tabAt k) = tabTo (k + 1) := by
  apply Array.ext_getElem?
  intro i
  rw [Array.getElem?_setIfInBounds]
  by_cases hi : i < 256
  · rw [tabTo_get _ _ hi, tabTo_get _ _ hi, tabTo_size]
    by_cases e : k = i
    · subst e; simp; omega
    · rw [if_neg e]
      congr 1
      by_cases h2 : i < k
      · rw [if_pos h2, if_pos (by omega)]
      · rw [if_neg h2, if_neg (by omega)]
  · rw [if_neg (by omega), Array.getElem?_eq_none (by rw [tabTo_size]; omega), Array.getElem?_eq_none (by rw [tabTo_size]; omega)]
theorem tabTo_all (k : Nat) : (tabTo k).all (·.oneCell') = true := by
  rw [Array.all_eq_true]
  intro i hi
  have h : (tabTo k)[i]? = some ((tabTo k)[i]) := Array.getElem?_eq_getElem hi
  rw [tabTo_get k i (by rw [tabTo_size] at hi; exact hi)] at h
  injection h with h
  rw [← h]
  split <;> rfl
theorem tab_get (i : Nat) (h : i < 256) : tab[i]? = some (tabAt i) := by rw [tab, tabTo_get 256 i h, if_pos h]
theorem tab_size : tab.size = 256 := tabTo_size 256
theorem tab_all : tab.all (·.oneCell') = true := tabTo_all 256
theorem tab_info : (Try.prog.info? 83).map (·.size) = some tab.size := by rw [tab_size]; kernel_rfl
theorem under_tab : Try.prog.underlying 83 = some (.array 256 56) := by kernel_rfl

theorem low_bit (x : UInt32) : bits .and .u32 (x.toNat : Int) 1 = ((x % 2).toNat : Int) := by
  have h := bits_and_u32 x 1
  have e : x &&& 1 = x % 2 := by
    apply UInt32.toNat_inj.1
    rw [UInt32.toNat_and, UInt32.toNat_mod]
    simp
  rw [e] at h
  exact h
theorem regStep_branchless (x : UInt32) : bits .xor .u32 ((x.toNat : Int) / 2) (2197175160 * bits .and .u32 (x.toNat : Int) 1 % 4294967296) = ((regStep x).toNat : Int) := by
  rw [low_bit, regStep]
  rcases mod2_cases x with e | e
  · rw [e, if_neg (by decide), u32_half]
    have h := bits_xor_u32 (x >>> 1) 0
    rw [UInt32.xor_zero] at h
    exact h
  · rw [e, if_pos rfl, u32_half]
    exact bits_xor_u32 (x >>> 1) 2197175160
theorem ofNat_val (k : Nat) (h : k < 256) : Value.int .u32 (k : Int) = .int .u32 ((UInt32.ofNat k).toNat : Int) := by
  rw [UInt32.toNat_ofNat_of_lt' (Nat.lt_trans h (by decide))]

attribute [local irreducible] Blk tab0 tabTo
set_option maxRecDepth 100000 in
set_option maxHeartbeats 1000000 in
theorem registers_any (w : World) :
    Calls Try.prog 44 #[] w fun e w' => e = .returned (.agg tab) ∧ Below w.heap.size w w' := by
  have hz := zeroTab
  go_enter Try.func44, Try.ntmps44
  go_wp2
  clear hz
  go_loopw [5] (fun i wr => ∃ k : Nat, k ≤ 256 ∧ i = .int .i64 k ∧ Blk wr (w.heap.size + 1) 83 (tabTo k) ∧ Blk wr w.heap.size 83 tab0 ∧ Below w.heap.size w wr) (fun i _ => 256 - (intOf i).toNat)
  case atStart =>
    refine ⟨0, by omega, rfl, ?_, (Blk.new w _ _).alloc _, ((Below.refl _ w).alloc (Nat.le_refl _) _).alloc (by simp) _⟩
    have := Blk.new (w.alloc (.cells tab0 83)) 83 tab0
    rw [World.size_alloc] at this
    unfold tab0 at this ⊢
    exact this
  case round =>
    obtain ⟨k, hk, rfl, hb, hb0, hB⟩ := hrel
    by_cases hlt : k < 256
    · obtain ⟨v, hv⟩ := hb.cell_ex (i := k) (by rw [tabTo_size]; exact hlt)
      have hfz := hb.frozen k
      go_wp2
      go_loop [3, 10] (fun r j => ∃ q : Nat, q ≤ 8 ∧ j = .int .i64 q ∧ r = .int .u32 (regN q (UInt32.ofNat k)).toNat) (fun _ j => 8 - (intOf j).toNat)
      case atStart => exact ⟨0, by omega, rfl, ofNat_val k hlt⟩
      case round =>
        obtain ⟨q, hq, rfl, rfl⟩ := hrel
        by_cases hq8 : q < 8
        · go_wp2
          go_round
          case rel => exact ⟨q + 1, by omega, by go_num, by rw [regN_snoc, regStep_branchless]⟩
          case measure => simp [intOf]; omega
        · obtain rfl : q = 8 := by omega
          go_wp2
          go_roundw
          case rel =>
            refine ⟨k + 1, by omega, by go_num, ?_, hb0.far (by simp) _, hB.setCell (by simp) _⟩
            rw [← tabTo_succ k hlt]
            exact hb.set_ k _
          case measure => simp [intOf]; omega
    · obtain rfl : k = 256 := by omega
      go_wp2_with (first
        | (refine wpList_load_row rfl 83 _ rfl (w.heap.size + 1) rfl 83 (tabTo 256) (0, 0) _ hb.row under_tab rfl tab_info ?_)
        | (refine wpList_store_row rfl 83 _ _ rfl w.heap.size (tabTo 256) rfl rfl 83 tab0 hb0.row tab_info (by rw [tabTo_size]; unfold tab0; exact tabTo_size _) (tabTo_all _) ?_))
      have hb2 := hb0.setRow_ tab
      refine bodyPost_ret (v := .agg tab) (results_cell_row rfl _ _ w.heap.size _ tab (0, 0) _ rfl hb2.row under_tab rfl tab_info) rfl ⟨rfl, below_setRow hB (Nat.le_refl _) _⟩
end Go.Proofs.Ytejoofeoffehmaa

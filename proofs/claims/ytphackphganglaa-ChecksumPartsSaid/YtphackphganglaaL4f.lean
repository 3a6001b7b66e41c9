/- ChecksumParts: the walk. -/
import Derived.Test.YtphackphganglaaAw4
import Derived.Test.YtphackphganglaaDg3
import Derived.Test.YtphackphganglaaPair
namespace Go.Proofs.Ytphackphganglaa
open Go.RowKit

theorem secCells_one (s : Sec) : ∀ u ∈ secCells s, u.oneCell' = true := u8v_one _
/-- The eight cells of a sector as a slice's cells. -/
theorem reads_sec {w : World} {b o : Nat} {s : Sec} (h : w.rangeAt b o (secCells s)) (B : Nat) (hb : b < B) : Reads w B 1 (some ⟨b, o, none⟩) 8 (secCells s) :=
  ⟨by rw [secCells_length], fun _ => ⟨b, o, rfl, hb, h⟩⟩
theorem secs_map_snoc (ss : List Sec) (k : Nat) (hk : k < ss.length) : (bytesOf (ss.take k)).map u8v ++ secCells ss[k] = (bytesOf (ss.take (k + 1))).map u8v := by
  rw [bytesOf_take_succ ss k hk, List.map_append]; rfl

/-- Byte i of the pair. -/
def pairB (a b : UInt64) (i : Nat) : UInt8 := if 8 ≤ i then leB b (i % 8) else leB a (i % 8)
def pairBs (a b : UInt64) (k : Nat) : List UInt8 := (List.range k).map (pairB a b)
theorem pairBs_succ (a b : UInt64) (k : Nat) : pairBs a b (k + 1) = pairBs a b k ++ [pairB a b k] := by simp [pairBs, List.range_succ]
theorem pairBs_length (a b : UInt64) (k : Nat) : (pairBs a b k).length = k := by simp [pairBs]
theorem pairBs_done (a b : UInt64) : pairBs a b 16 = pairBytes a b := by simp [pairBs, pairBytes, leBs, List.range_succ, pairB]

set_option maxHeartbeats 1000000 in
theorem parts_small (A : Option Addr) (c : Nat) (ss : List Sec) (a b : UInt64) (w : World) (hl : ss.length ≤ 300) (rx : RS w w.heap.size A ss) :
    Calls Try.prog 9 #[.slice A ss.length c, .int .u64 a.toNat, .int .u64 b.toNat] w fun e w' => e = .returned (.bool true) ∧ Below w.heap.size w w' := by
  have HX := Lib.hid rx
  clear rx
  have h1 : ¬ 300 < ss.length := by omega
  go_enter Try.func9, Try.ntmps9
  go_wp2_with fail
  go_loopw [7, 9] (fun v i wr => ∃ (k : Nat) (A' : Option Addr) (c' : Nat), k ≤ ss.length ∧ i = .int .i64 k ∧ v = .slice A' (k * 8) c' ∧
      Own wr w.heap.size 5 1 A' (k * 8) c' ((bytesOf (ss.take k)).map u8v) ∧ Below w.heap.size w wr) (fun _ i _ => ss.length - (intOf i).toNat)
  case atStart => exact ⟨0, none, 0, Nat.zero_le _, rfl, rfl, Own.nil_ _ _ _ _, Below.refl _ _⟩
  case round =>
    obtain ⟨k, A1, c1, hk, rfl, rfl, ho, hB⟩ := hrel
    have HO := Lib.hid ho
    clear ho
    by_cases hlt : k < ss.length
    · obtain ⟨b0, o0, hA, hb0, hc⟩ := (HX.out.below hB).at_ hlt
      subst hA
      have HC := Lib.hid hc
      clear hc
      go_wp2_with
        (at_builtin
         refine wpList_app _ rfl (.tmp 22) (.tmp 26) 26 rfl 5 1 1 elemB w.heap.size A1 (k * 8) c1 ((bytesOf (ss.take k)).map u8v) rfl HO.out w.heap.size (some ⟨b0, o0 + k * 8, none⟩) 8 8 (secCells ss[k]) rfl (reads_sec HC.out _ hb0) (secCells_one _) ((k + 1) * 8) (by omega) ((bytesOf (ss.take (k + 1))).map u8v) (secs_map_snoc ss k hlt) (by simp only [maxLen]; omega) (by omega) hB.size ?_
         intro A3 c3 w3 ho3 hg3 hl3
         have hB3 : Below w.heap.size w w3 := below_app hB hB.size (fun j hj => (HO.out.block j hj).1) hg3
         have HO3 := Lib.hid ho3
         have HG3 := Lib.hid hg3
         have HL3 := Lib.hid hl3
         clear ho3 hg3 hl3)
      go_roundw
      case rel => exact ⟨k + 1, A3, c3, by omega, by go_num, rfl, HO3.out, hB3⟩
      case measure => simp [intOf]; omega
    · obtain rfl : k = ss.length := by omega
      have hR1 : RB wr wr.heap.size A1 (bytesOf ss) := by
        have := HO.out.reads
        rw [List.take_length] at this
        unfold RB
        rw [bytesOf_length]
        exact this
      have H1 := Lib.hid hR1
      clear hR1
      go_wp2_with fail
      obtain ⟨wo, rfl⟩ : ∃ wo : World, wo = wr := ⟨_, rfl⟩
      go_loopw [8, 10, 11] (fun v i _ wr => ∃ (k : Nat) (A' : Option Addr) (c' : Nat), k ≤ 16 ∧ i = .int .i64 k ∧ v = .slice A' k c' ∧ Own wr wo.heap.size 5 1 A' k c' ((pairBs a b k).map u8v) ∧ Below wo.heap.size wo wr) (fun _ i _ _ => 16 - (intOf i).toNat)
      case atStart => exact ⟨0, none, 0, Nat.zero_le _, rfl, rfl, Own.nil_ _ _ _ _, Below.refl _ _⟩
      case round =>
        obtain ⟨q, A2, c2, hq, rfl, rfl, ho2, hB2⟩ := hrel
        have HO2 := Lib.hid ho2
        clear ho2
        by_cases hlt : q < 16
        · have HS := Lib.hid (pairBs_succ a b q)
          have hm0 : (0 : Int) ≤ (q : Int) % 8 := by omega
          by_cases h8 : 8 ≤ q
          · have he := leB_val b (q % 8)
            have hx : pairB a b q = leB b (q % 8) := by rw [pairB, if_pos h8]
            generalize leB b (q % 8) = x at he hx
            have HX2 := Lib.hid hx
            clear hx
            go_wp2_with
              (at_builtin
               refine wpList_app _ rfl (.tmp 36) (.tmp 43) 26 rfl 5 1 1 elemB wo.heap.size A2 q c2 ((pairBs a b q).map u8v) rfl (HO2.out.alloc _) (wr.heap.size + 1) (some ⟨wr.heap.size, 0, none⟩) 1 1 [u8v x] rfl (reads_one _ _ _) (by simp [u8v, Value.oneCell']) (q + 1) rfl ((pairBs a b (q + 1)).map u8v) (by rw [HS.out, HX2.out]; simp) (by simp only [maxLen]; omega) (by omega) (by have := hB2.size; simp; omega) ?_
               intro A3 c3 w3 ho3 hg3 hl3
               have hB3 : Below wo.heap.size wo w3 := below_app (hB2.alloc hB2.size _) (by have := hB2.size; simp; omega) (fun j hj => (HO2.out.block j hj).1) hg3
               have HO3 := Lib.hid ho3
               have HG3 := Lib.hid hg3
               have HL3 := Lib.hid hl3
               clear ho3 hg3 hl3)
            go_roundw
            case rel => exact ⟨q + 1, A3, c3, by omega, by go_num, rfl, HO3.out, hB3⟩
            case measure => simp [intOf]; omega
          · have he := leB_val a (q % 8)
            have hx : pairB a b q = leB a (q % 8) := by rw [pairB, if_neg h8]
            generalize leB a (q % 8) = x at he hx
            have HX2 := Lib.hid hx
            clear hx
            go_wp2_with
              (at_builtin
               refine wpList_app _ rfl (.tmp 36) (.tmp 43) 26 rfl 5 1 1 elemB wo.heap.size A2 q c2 ((pairBs a b q).map u8v) rfl (HO2.out.alloc _) (wr.heap.size + 1) (some ⟨wr.heap.size, 0, none⟩) 1 1 [u8v x] rfl (reads_one _ _ _) (by simp [u8v, Value.oneCell']) (q + 1) rfl ((pairBs a b (q + 1)).map u8v) (by rw [HS.out, HX2.out]; simp) (by simp only [maxLen]; omega) (by omega) (by have := hB2.size; simp; omega) ?_
               intro A3 c3 w3 ho3 hg3 hl3
               have hB3 : Below wo.heap.size wo w3 := below_app (hB2.alloc hB2.size _) (by have := hB2.size; simp; omega) (fun j hj => (HO2.out.block j hj).1) hg3
               have HO3 := Lib.hid ho3
               have HG3 := Lib.hid hg3
               have HL3 := Lib.hid hl3
               clear ho3 hg3 hl3)
            go_roundw
            case rel => exact ⟨q + 1, A3, c3, by omega, by go_num, rfl, HO3.out, hB3⟩
            case measure => simp [intOf]; omega
        · obtain rfl : q = 16 := by omega
          have hR2 : RB wr wr.heap.size A2 (pairBytes a b) := by
            have := HO2.out.reads
            rw [pairBs_done] at this
            unfold RB
            rw [← pairBs_done, pairBs_length, pairBs_done]
            exact this
          have H2 := Lib.hid hR2
          clear hR2
          have hW : Below w.heap.size w wr := below_next hB hB2
          go_wp2_with fail
          refine (awake_any _).mono ?_
          rintro e w3 ⟨rfl, hB3⟩
          have hW3 : Below w.heap.size w w3 := below_next hW hB3
          go_wp2_with fail
          refine (sectors_n _ _ _ ss _ (HX.out.later hW3) rfl (by simp only [maxLen]; omega)).mono ?_
          rintro e w4 ⟨rfl, hB4⟩
          have hW4 : Below w.heap.size w w4 := below_next hW3 hB4
          go_wp2_with fail
          refine (digest_n _ _ _ (bytesOf ss) _ ((H1.out.later (below_next (below_next hB2 hB3) hB4))) (bytesOf_length ss) (by simp only [maxLen]; omega)).mono ?_
          rintro e w5 ⟨rfl, hB5⟩
          have hW5 : Below w.heap.size w w5 := below_next hW4 hB5
          go_wp2_with fail
          refine (pair_any a b _).mono ?_
          rintro e w6 ⟨rfl, hB6⟩
          have hW6 : Below w.heap.size w w6 := below_next hW5 hB6
          go_wp2_with fail
          refine (digest_n _ _ _ (pairBytes a b) _ ((((H2.out.step hB3).step hB4).step hB5).step hB6) (by rw [← pairBs_done, pairBs_length]) (by simp only [maxLen]; omega)).mono ?_
          rintro e w7 ⟨rfl, hB7⟩
          go_wp2_with fail
          go_ret
          exact ⟨rfl, below_next hW6 hB7⟩

set_option maxHeartbeats 1000000 in
theorem parts_big (A : Option Addr) (c : Nat) (ss : List Sec) (a b : UInt64) (w : World) (hl : 300 < ss.length) (hm : ss.length ≤ 9223372036854775807) :
    Calls Try.prog 9 #[.slice A ss.length c, .int .u64 a.toNat, .int .u64 b.toNat] w fun e w' => e = .returned (.bool true) ∧ Below w.heap.size w w' := by
  go_enter Try.func9, Try.ntmps9
  go_wp2_with (go_at_call 10; refine (awake_any _).mono ?_; rintro e w1 ⟨rfl, hB1⟩)
  go_ret
  exact ⟨rfl, hB1⟩

theorem law_ChecksumParts {w : World} (A : Option Addr) (c : Nat) (ss : List Sec) (lx : ss.length ≤ c) (mx : c ≤ maxLen) (rx : RS w w.heap.size A ss) (a b : UInt64) :
    Calls Try.prog 9 #[.slice A ss.length c, .int .u64 a.toNat, .int .u64 b.toNat] w fun e w' => e = .returned (.bool true) ∧ Below w.heap.size w w' := by
  unfold maxLen at mx
  by_cases h : 300 < ss.length
  · exact parts_big A c ss a b w h (by omega)
  · exact parts_small A c ss a b w (by omega) rx
end Go.Proofs.Ytphackphganglaa

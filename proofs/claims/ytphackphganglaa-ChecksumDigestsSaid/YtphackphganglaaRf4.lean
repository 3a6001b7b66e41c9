/- Contracts: the reference's Digest, Bytes, Sectors, Pair. -/
import Derived.Test.YtphackphganglaaDig
import Derived.Test.YtphackphganglaaSec
import Derived.Test.YtphackphganglaaApp
namespace Go.Proofs.Ytphackphganglaa
open Go.RowKit

theorem dig_step_ref (h : UInt64) (x : UInt8) : IntKind.u64.wrap (bits .xor .u64 (h.toNat : Int) (IntKind.u64.wrap (x.toNat : Int)) * (1099511628211 : Int)) = ((digStep h x).toNat : Int) := dig_step_val h x

set_option maxHeartbeats 400000 in
theorem refdigest_any (A : Option Addr) (c : Nat) (xs : List UInt8) (w : World) (hR : RB w w.heap.size A xs) (hl : xs.length ≤ maxLen) :
    Calls Try.prog 16 #[.slice A xs.length c] w fun e w' => e = .returned (.int .u64 (dig xs).toNat) ∧ Below w.heap.size w w' := by
  have HR := Lib.hid hR
  clear hR
  unfold maxLen at hl
  go_enter Try.func16, Try.ntmps16
  go_wp2_with fail
  go_loop [3, 4] (fun h i => ∃ k : Nat, k ≤ xs.length ∧ i = .int .i64 k ∧ h = .int .u64 (digs (xs.take k)).toNat) (fun _ i => xs.length - (intOf i).toNat)
  case atStart => exact ⟨0, Nat.zero_le _, rfl, rfl⟩
  case round =>
    obtain ⟨k, hk, rfl, rfl⟩ := hrel
    by_cases hlt : k < xs.length
    · obtain ⟨b0, o0, hA, _, hc⟩ := HR.out.at_ hlt
      subst hA
      have hsn : digs (xs.take (k + 1)) = digStep (digs (xs.take k)) xs[k] := by
        rw [List.take_succ_eq_append_getElem hlt, digs_snoc]
      have HS := Lib.hid hsn
      clear hsn
      generalize digs (xs.take k) = h at HS ⊢
      generalize xs[k] = x at hc HS
      go_wp2_with fail
      go_round
      case rel => exact ⟨k + 1, by omega, by go_num, by rw [HS.out, ← dig_step_val]⟩
      case measure => simp [intOf]; omega
    · obtain rfl : k = xs.length := by omega
      rw [List.take_length]
      have he := dig_end_val (digs xs)
      go_wp2_with fail
      go_ret
      exact ⟨rfl, Below.refl _ _⟩
theorem refdigest_n (A : Option Addr) (n c : Nat) (xs : List UInt8) (w : World) (hR : RB w w.heap.size A xs) (hn : xs.length = n) (hl : n ≤ maxLen) :
    Calls Try.prog 16 #[.slice A n c] w fun e w' => e = .returned (.int .u64 (dig xs).toNat) ∧ Below w.heap.size w w' := by
  subst hn; exact refdigest_any A c xs w hR hl

set_option maxHeartbeats 1000000 in
theorem refbytes_any (A : Option Addr) (c : Nat) (ss : List Sec) (w : World) (hR : RS w w.heap.size A ss) (hl : ss.length ≤ 1000000) :
    Calls Try.prog 26 #[.slice A ss.length c] w fun e w' => ∃ A' c', e = .returned (.slice A' (ss.length * 8) c') ∧ Own w' w.heap.size 5 1 A' (ss.length * 8) c' ((bytesOf ss).map u8v) ∧ Below w.heap.size w w' := by
  have HR := Lib.hid hR
  clear hR
  go_enter Try.func26, Try.ntmps26
  go_wp2_with fail
  go_loopw [3, 4] (fun v i wr => ∃ (k : Nat) (A' : Option Addr) (c' : Nat), k ≤ ss.length ∧ i = .int .i64 k ∧ v = .slice A' (k * 8) c' ∧
      Own wr w.heap.size 5 1 A' (k * 8) c' ((bytesOf (ss.take k)).map u8v) ∧ Below w.heap.size w wr) (fun _ i _ => ss.length - (intOf i).toNat)
  case atStart => exact ⟨0, none, 0, Nat.zero_le _, rfl, rfl, Own.nil_ _ _ _ _, Below.refl _ _⟩
  case round =>
    obtain ⟨k, A1, c1, hk, rfl, rfl, ho, hB⟩ := hrel
    have HO := Lib.hid ho
    clear ho
    by_cases hlt : k < ss.length
    · have HT := Lib.hid (bytesOf_take_succ ss k hlt)
      go_wp2_with fail
      obtain ⟨wo, rfl⟩ : ∃ wo : World, wo = wr := ⟨_, rfl⟩
      go_loopw [3, 5] (fun v j wr => ∃ (q : Nat) (A' : Option Addr) (c' : Nat), q ≤ 8 ∧ j = .int .i64 q ∧ v = .slice A' (k * 8 + q) c' ∧
          Own wr w.heap.size 5 1 A' (k * 8 + q) c' ((bytesOf (ss.take k) ++ ss[k].toList.take q).map u8v) ∧ Below w.heap.size w wr) (fun _ j _ => 8 - (intOf j).toNat)
      case atStart => exact ⟨0, A1, c1, by omega, rfl, rfl, by rw [List.take_zero, List.append_nil]; exact HO.out, hB⟩
      case round =>
        obtain ⟨q, A2, c2, hq, rfl, rfl, ho2, hB2⟩ := hrel
        have HO2 := Lib.hid ho2
        clear ho2
        by_cases hq8 : q < 8
        · obtain ⟨b0, o0, hA, hb0, hc⟩ := (HR.out.below hB2).at_ hlt
          subst hA
          have hcell := hc q _ (secCells_get ss[k] q hq8)
          have HS : Hid ((ss[k].toList.take (q + 1)) = ss[k].toList.take q ++ [(ss[k])[q]]) := by
            show _ = _
            rw [List.take_succ_eq_append_getElem (by rw [Vector.length_toList]; exact hq8)]
            simp
          generalize (ss[k])[q] = x at hcell HS
          have HC := Lib.hid hc
          clear hc
          go_wp2_with
            (at_builtin
             refine wpList_app _ rfl (.tmp 16) (.tmp 23) 26 rfl 5 1 1 elemB w.heap.size A2 (k * 8 + q) c2 ((bytesOf (ss.take k) ++ ss[k].toList.take q).map u8v) rfl (HO2.out.alloc _) (wr.heap.size + 1) (some ⟨wr.heap.size, 0, none⟩) 1 1 [u8v x] rfl (reads_one _ _ _) (by simp [u8v, Value.oneCell']) (k * 8 + q + 1) rfl ((bytesOf (ss.take k) ++ ss[k].toList.take (q + 1)).map u8v) (by rw [HS.out]; simp) (by simp only [maxLen]; omega) (by omega) (by have := hB2.size; simp; omega) ?_
             intro A3 c3 w3 ho3 hg3 hl3
             have hB3 : Below w.heap.size w w3 := below_app (hB2.alloc hB2.size _) (by have := hB2.size; simp; omega) (fun j hj => (HO2.out.block j hj).1) hg3
             have HO3 := Lib.hid ho3
             have HG3 := Lib.hid hg3
             have HL3 := Lib.hid hl3
             clear ho3 hg3 hl3)
          go_roundw
          case rel => exact ⟨q + 1, A3, c3, by omega, by go_num, rfl, HO3.out, hB3⟩
          case measure => simp [intOf]; omega
        · obtain rfl : q = 8 := by omega
          have h8 : ss[k].toList.take 8 = ss[k].toList := List.take_of_length_le (by rw [Vector.length_toList]; omega)
          have hfin : Own wr w.heap.size 5 1 A2 ((k + 1) * 8) c2 ((bytesOf (ss.take (k + 1))).map u8v) := by
            have := HO2.out
            rw [h8, ← HT.out] at this
            have e : k * 8 + 8 = (k + 1) * 8 := by omega
            rw [e] at this
            exact this
          have HF := Lib.hid hfin
          have e8 : k * 8 + 8 = (k + 1) * 8 := by omega
          clear hfin h8
          rw [e8]
          clear e8
          go_wp2_with fail
          go_roundw
          case rel => exact ⟨k + 1, A2, c2, by omega, by go_num, rfl, HF.out, hB2⟩
          case measure => simp [intOf]; omega
    · obtain rfl : k = ss.length := by omega
      go_wp2_with fail
      go_ret
      exact ⟨A1, c1, rfl, by have := HO.out; rw [List.take_length] at this; exact this, hB⟩

theorem refsectors_n (A : Option Addr) (n c : Nat) (ss : List Sec) (w : World) (hR : RS w w.heap.size A ss) (hn : ss.length = n) (hl : n ≤ 1000000) :
    Calls Try.prog 18 #[.slice A n c] w fun e w' => e = .returned (.int .u64 (dig (bytesOf ss)).toNat) ∧ Below w.heap.size w w' := by
  subst hn
  have HR := Lib.hid hR
  clear hR
  go_enter Try.func18, Try.ntmps18
  go_wp2_with fail
  refine (refbytes_any A c ss _ HR.out hl).mono ?_
  rintro e w1 ⟨A1, c1, rfl, ho, hB1⟩
  have hR1 : RB w1 w1.heap.size A1 (bytesOf ss) := by
    have := ho.reads
    unfold RB
    rw [bytesOf_length]
    exact this
  have H1 := Lib.hid hR1
  clear ho hR1
  go_wp2_with fail
  refine (refdigest_n A1 _ c1 (bytesOf ss) _ H1.out (bytesOf_length ss) (by simp only [maxLen]; omega)).mono ?_
  rintro e w2 ⟨rfl, hB2⟩
  go_wp2_with fail
  go_ret
  exact ⟨rfl, below_next hB1 hB2⟩

/-- Byte i of a number, the least significant one first. -/
def leB (a : UInt64) (i : Nat) : UInt8 := UInt8.ofNat (a.toNat / 2 ^ (8 * i))
theorem leB_val (a : UInt64) (i : Nat) : (a.toNat : Int) / 2 ^ (8 * i) % (256 : Int) = ((leB a i).toNat : Int) := by
  rw [leB, UInt8.toNat_ofNat', Int.natCast_emod, Int.natCast_ediv, Int.natCast_pow]
  rfl
def leBs (a : UInt64) (k : Nat) : List UInt8 := (List.range k).map (leB a)
theorem leBs_succ (a : UInt64) (k : Nat) : leBs a (k + 1) = leBs a k ++ [leB a k] := by simp [leBs, List.range_succ]
theorem leBs_length (a : UInt64) (k : Nat) : (leBs a k).length = k := by simp [leBs]
def pairBytes (a b : UInt64) : List UInt8 := leBs a 8 ++ leBs b 8

set_option maxHeartbeats 1000000 in
theorem refpair_any (a b : UInt64) (w : World) :
    Calls Try.prog 20 #[.int .u64 a.toNat, .int .u64 b.toNat] w fun e w' => e = .returned (.int .u64 (dig (pairBytes a b)).toNat) ∧ Below w.heap.size w w' := by
  go_enter Try.func20, Try.ntmps20
  go_wp2_with fail
  go_loopw [5, 6] (fun v i wr => ∃ (k : Nat) (A' : Option Addr) (c' : Nat), k ≤ 8 ∧ i = .int .i64 k ∧ v = .slice A' k c' ∧ Own wr w.heap.size 5 1 A' k c' ((leBs a k).map u8v) ∧ Below w.heap.size w wr) (fun _ i _ => 8 - (intOf i).toNat)
  case atStart => exact ⟨0, none, 0, Nat.zero_le _, rfl, rfl, Own.nil_ _ _ _ _, Below.refl _ _⟩
  case round =>
    obtain ⟨k, A1, c1, hk, rfl, rfl, ho, hB⟩ := hrel
    have HO := Lib.hid ho
    clear ho
    by_cases hlt : k < 8
    · have HS := Lib.hid (leBs_succ a k)
      have he := leB_val a k
      generalize leB a k = x at he HS
      go_wp2_with
        (at_builtin
         refine wpList_app _ rfl (.tmp 12) (.tmp 18) 26 rfl 5 1 1 elemB w.heap.size A1 k c1 ((leBs a k).map u8v) rfl (HO.out.alloc _) (wr.heap.size + 1) (some ⟨wr.heap.size, 0, none⟩) 1 1 [u8v x] rfl (reads_one _ _ _) (by simp [u8v, Value.oneCell']) (k + 1) rfl ((leBs a (k + 1)).map u8v) (by rw [HS.out]; simp) (by simp only [maxLen]; omega) (by omega) (by have := hB.size; simp; omega) ?_
         intro A3 c3 w3 ho3 hg3 hl3
         have hB3 : Below w.heap.size w w3 := below_app (hB.alloc hB.size _) (by have := hB.size; simp; omega) (fun j hj => (HO.out.block j hj).1) hg3
         have HO3 := Lib.hid ho3
         have HG3 := Lib.hid hg3
         have HL3 := Lib.hid hl3
         clear ho3 hg3 hl3)
      go_roundw
      case rel => exact ⟨k + 1, A3, c3, by omega, by go_num, rfl, HO3.out, hB3⟩
      case measure => simp [intOf]; omega
    · obtain rfl : k = 8 := by omega
      go_wp2_with fail
      rw [show ((8 : Nat) : Int) = 8 from rfl]
      obtain ⟨wo, rfl⟩ : ∃ wo : World, wo = wr := ⟨_, rfl⟩
      go_loopw [5, 7] (fun v i wr => ∃ (k : Nat) (A' : Option Addr) (c' : Nat), k ≤ 8 ∧ i = .int .i64 k ∧ v = .slice A' (8 + k) c' ∧ Own wr w.heap.size 5 1 A' (8 + k) c' ((leBs a 8 ++ leBs b k).map u8v) ∧ Below w.heap.size w wr) (fun _ i _ => 8 - (intOf i).toNat)
      case atStart => exact ⟨0, A1, c1, Nat.zero_le _, rfl, rfl, by simpa [leBs] using HO.out, hB⟩
      case round =>
        obtain ⟨k, A2, c2, hk, rfl, rfl, ho2, hB2⟩ := hrel
        have HO2 := Lib.hid ho2
        clear ho2
        by_cases hlt : k < 8
        · have HS := Lib.hid (leBs_succ b k)
          have he := leB_val b k
          generalize leB b k = x at he HS
          go_wp2_with
            (at_builtin
             refine wpList_app _ rfl (.tmp 24) (.tmp 30) 26 rfl 5 1 1 elemB w.heap.size A2 (8 + k) c2 ((leBs a 8 ++ leBs b k).map u8v) rfl (HO2.out.alloc _) (wr.heap.size + 1) (some ⟨wr.heap.size, 0, none⟩) 1 1 [u8v x] rfl (reads_one _ _ _) (by simp [u8v, Value.oneCell']) (8 + k + 1) rfl ((leBs a 8 ++ leBs b (k + 1)).map u8v) (by rw [HS.out]; simp) (by simp only [maxLen]; omega) (by omega) (by have := hB2.size; simp; omega) ?_
             intro A3 c3 w3 ho3 hg3 hl3
             have hB3 : Below w.heap.size w w3 := below_app (hB2.alloc hB2.size _) (by have := hB2.size; simp; omega) (fun j hj => (HO2.out.block j hj).1) hg3
             have HO3 := Lib.hid ho3
             have HG3 := Lib.hid hg3
             have HL3 := Lib.hid hl3
             clear ho3 hg3 hl3)
          go_roundw
          case rel => exact ⟨k + 1, A3, c3, by omega, by go_num, rfl, HO3.out, hB3⟩
          case measure => simp [intOf]; omega
        · obtain rfl : k = 8 := by omega
          have hR1 : RB wr wr.heap.size A2 (pairBytes a b) := by
            have := HO2.out.reads
            unfold RB pairBytes
            rw [List.length_append, leBs_length, leBs_length]
            exact this
          have H1 := Lib.hid hR1
          clear hR1
          go_wp2_with fail
          refine (refdigest_n A2 _ c2 (pairBytes a b) _ H1.out (by simp [pairBytes, leBs_length]) (by decide)).mono ?_
          rintro e w2 ⟨rfl, hB4⟩
          go_wp2_with fail
          go_ret
          exact ⟨rfl, below_next hB2 hB4⟩
end Go.Proofs.Ytphackphganglaa

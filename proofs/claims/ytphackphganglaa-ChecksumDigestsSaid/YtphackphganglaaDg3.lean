/- Contracts: the iterator over the bytes of sectors; Sectors. -/
import Derived.Test.YtphackphganglaaDg1
import Derived.Test.YtphackphganglaaIn
import Derived.Test.YtphackphganglaaSec
namespace Go.Proofs.Ytphackphganglaa
open Go.RowKit Go.Shelf
attribute [local go_sem] Oper.semAt_some

attribute [local irreducible] Blk sec0 secCells
set_option maxRecDepth 100000 in
set_option maxHeartbeats 2000000 in
/-- The closure of Sectors: every byte of every sector, in order. -/
theorem secs_iter (n : Nat) (hn : 1 ≤ n) (l Bs n₀ c : Nat) (A : Option Addr) (ss : List Sec) (J Jx : List UInt8 → World → Prop)
    (hJab : ∀ s W W', J s W → W.grownBy W' none → J s W')
    (hY : ∀ pre x W, J pre W → pre.length < (bytesOf ss).length → YieldAt Fence.wide (n - 1) Try.prog l #[.int .u8 (x.toNat : Int)] W fun e W' =>
      (e = .returned (.bool true) ∧ J (pre ++ [x]) W' ∧ Below n₀ W W') ∨ (e = .returned (.bool false) ∧ Jx (pre ++ [x]) W'))
    (W : World) (hn₀ : n₀ ≤ W.heap.size) (hBs : W.cell? ⟨Bs, 0, none⟩ = some (.slice A ss.length c)) (hR : RS W n₀ A ss) (hl : ss.length ≤ 9223372036854775807) (h0 : J [] W) :
    CallsIn Fence.wide n Try.prog 25 #[.func (.yield l) #[] #[], .pointer (some ⟨Bs, 0, none⟩)] W fun e W' => (∃ v, e = .returned v) ∧
      ((∃ ys, ys = bytesOf ss ∧ J ys W') ∨ (∃ pre, True ∧ Jx pre W')) := by
  refine callsIn_of_wp Try.func25 rfl trivial ?_ rfl
  simp only [Try.ntmps25, List.size_toArray, List.length_cons, List.length_nil, Nat.reduceAdd, Nat.reduceSub, Array.replicate_succ, Array.replicate_zero, List.push_toArray, List.append_toArray, List.nil_append, List.cons_append]
  have HY := Lib.hid hY
  have HR := Lib.hid hR
  have H0 := Lib.hid h0
  have HA := Lib.hid hJab
  clear hY hR h0 hJab
  gi_wp2
  gi_loopw [9] (fun i wr => ∃ k : Nat, k ≤ ss.length ∧ i = .int .i64 k ∧ J (bytesOf (ss.take k)) wr ∧ Below n₀ W wr)
    (fun i _ => ss.length - (intOf i).toNat)
  case atStart => exact ⟨0, Nat.zero_le _, rfl, H0.out, Below.refl _ _⟩
  case round =>
    obtain ⟨k, hk, rfl, hJs, hnx⟩ := hrel
    have HJ := Lib.hid hJs
    clear hJs
    by_cases hlt : k < ss.length
    · obtain ⟨b0, o0, hA, hb, hc⟩ := (HR.out.below hnx).at_ hlt
      subst hA
      have HT := Lib.hid (bytesOf_take_succ ss k hlt)
      have HC := Lib.hid hc
      clear hc
      have hz := zeroSec
      gi_wp2_with (first
        | (refine wpListIn_load_mid rfl 44 _ rfl b0 (o0 + k * 8) rfl (secCells ss[k]) _ HC.out under_sec rfl (info_sec _) ?_)
        | (refine wpListIn_store_row rfl 44 _ _ rfl wr.heap.size (secCells ss[k]).toArray rfl rfl 44 sec0 (Blk.new wr _ _).row (info_secA _) (sec0_size _) (secCells_all _) ?_)
        | (refine wpListIn_load_row rfl 44 _ rfl wr.heap.size rfl 44 (secCells ss[k]).toArray (0, 0) _ ((Blk.new wr _ _).setRow_ _).row under_sec rfl (info_secA _) ?_))
      clear hz
      have hJ1 := HA.out _ _ _ HJ.out (grownBy_newRow wr 44 sec0 (secCells ss[k]).toArray)
      have hB1 : Below n₀ W ((wr.alloc (.cells sec0 44)).setRow wr.heap.size (secCells ss[k]).toArray) :=
        below_setRow (hnx.alloc (Nat.le_trans hn₀ hnx.size) _) (Nat.le_trans hn₀ hnx.size) _
      have H1 := Lib.hid hJ1
      clear hJ1
      gi_loopw [6, 14] (fun _ j w2 => ∃ q : Nat, q ≤ 8 ∧ j = .int .i64 q ∧ J (bytesOf (ss.take k) ++ ss[k].toList.take q) w2 ∧ Below n₀ W w2)
        (fun _ j _ => 8 - (intOf j).toNat)
      case atStart => exact ⟨0, Nat.zero_le _, rfl, by rw [List.take_zero, List.append_nil]; exact H1.out, hB1⟩
      case round =>
        rename_i wq _ _ _ _ _ _ _ _ _ _
        obtain ⟨q, hq, rfl, hJq, hBq⟩ := hrel
        by_cases hq8 : q < 8
        · have hlen : (bytesOf (ss.take k) ++ ss[k].toList.take q).length < (bytesOf ss).length := by
            rw [List.length_append, bytesOf_length, bytesOf_length, List.length_take, List.length_take, Vector.length_toList]
            omega
          obtain ⟨fn, tmps, assign, body, hy, hRd⟩ := HY.out _ (ss[k])[q] _ hJq hlen
          have hix := index_sec ss[k] q hq8
          have HJq := Lib.hid hJq
          have HS : Hid ((ss[k].toList.take (q + 1)) = ss[k].toList.take q ++ [(ss[k])[q]]) := by
            show _ = _
            rw [List.take_succ_eq_append_getElem (by rw [Vector.length_toList]; exact hq8)]
            simp
          clear hJq hlen
          gi_wp2
          refine hRd.mono ?_
          rintro e W3 (⟨rfl, hJ3, hk3⟩ | ⟨rfl, hJx3⟩)
          · gi_wp2
            go_roundw
            case rel => exact ⟨q + 1, by omega, by simp, by rw [HS.out, ← List.append_assoc]; exact hJ3, hBq.trans hk3⟩
            case measure => simp [intOf]; omega
          · gi_wp2
            refine bodyPost_ret (results_none rfl _ _ _) rfl ?_
            exact ⟨⟨_, rfl⟩, .inr ⟨_, trivial, hJx3⟩⟩
        · obtain rfl : q = 8 := by omega
          have h8 : ss[k].toList.take 8 = ss[k].toList := List.take_of_length_le (by rw [Vector.length_toList]; omega)
          rw [h8, ← HT.out] at hJq
          clear h8
          gi_wp2
          go_roundw
          case rel => exact ⟨k + 1, by omega, by simp, hJq, hBq⟩
          case measure => simp [intOf]; omega
    · obtain rfl : k = ss.length := by omega
      have hJe := HJ.out
      rw [List.take_length] at hJe
      clear HJ
      gi_wp2
      go_end0
      exact ⟨⟨_, rfl⟩, .inl ⟨_, rfl, hJe⟩⟩

theorem secs_stops (n : Nat) (hn : 1 ≤ n) (Bs n₀ c : Nat) (A : Option Addr) (ss : List Sec) (w : World) (hBs : Bs < w.heap.size) (hn₀ : n₀ ≤ w.heap.size)
    (hc : w.cell? ⟨Bs, 0, none⟩ = some (.slice A ss.length c)) (hR : RS w n₀ A ss) (hl : ss.length ≤ 9223372036854775807) :
    SeqStopsK Fence.wide n Try.prog 25 #[.pointer (some ⟨Bs, 0, none⟩)] (fun x : UInt8 => #[.int .u8 (x.toNat : Int)]) (Below n₀) (fun ys => ys = bytesOf ss) (fun _ => True) (bytesOf ss).length w :=
  fun l J Jx W hW hJ _ hY h0 =>
    secs_iter n hn l Bs n₀ c A ss J Jx (fun s A B hs hg => hJ s A B none hs hg (fun r e => by cases e)) hY W (Nat.le_trans hn₀ hW.size) ((hW.cell (p := ⟨Bs, 0, none⟩) hBs).trans hc) (hR.below (hW.mono hn₀)) hl h0

theorem enter_secs : ∀ (args : Array Value) (w : World), (callFunc 25 args).run Try.prog w = .ok (.enter 25 args) w :=
  enters_of Try.func25 (by kernel_rfl) rfl

set_option maxHeartbeats 400000 in
theorem sectors_any (A : Option Addr) (c : Nat) (ss : List Sec) (w : World) (hR : RS w w.heap.size A ss) (hl : ss.length ≤ maxLen) :
    Calls Try.prog 17 #[.slice A ss.length c] w fun e w' => e = .returned (.int .u64 (dig (bytesOf ss)).toNat) ∧ Below w.heap.size w w' := by
  have HR := Lib.hid hR
  clear hR
  go_enter Try.func17, Try.ntmps17
  go_wp2_with fail
  have hB0 : Below w.heap.size w (w.alloc (.cells #[.slice A ss.length c] 37)) := (Below.refl _ w).alloc (Nat.le_refl _) _
  have hcell := (Blk.new w 37 #[.slice A ss.length c]).cell_of (i := 0) rfl
  have hst := secs_stops 3 (by omega) w.heap.size (w.heap.size + 1) c A ss (w.alloc (.cells #[.slice A ss.length c] 37)) (by simp) (by simp) hcell ((HR.out.below hB0).more (by omega)) hl
  have hct := callsIn_wide.1 (digest_in 4 (by omega) 25 #[.pointer (some ⟨w.heap.size, 0, none⟩)] (bytesOf ss) (w.alloc (.cells #[.slice A ss.length c] 37)) enter_secs (by simpa using hst))
  clear hst hcell
  refine hct.mono ?_
  rintro e w1 ⟨rfl, hB1⟩
  go_wp2_with fail
  go_ret
  exact ⟨rfl, below_then hB0 hB1⟩
theorem sectors_n (A : Option Addr) (n c : Nat) (ss : List Sec) (w : World) (hR : RS w w.heap.size A ss) (hn : ss.length = n) (hl : n ≤ maxLen) :
    Calls Try.prog 17 #[.slice A n c] w fun e w' => e = .returned (.int .u64 (dig (bytesOf ss)).toNat) ∧ Below w.heap.size w w' := by
  subst hn; exact sectors_any A c ss w hR hl
end Go.Proofs.Ytphackphganglaa

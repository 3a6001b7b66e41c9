/- Contracts: the iterators over bytes and over sectors; Digest, Sectors. -/
import Derived.Test.YtphackphganglaaDg1
namespace Go.Proofs.Ytphackphganglaa
open Go.RowKit Go.Shelf
attribute [local go_sem] Oper.semAt_some

set_option maxRecDepth 100000 in
set_option maxHeartbeats 2000000 in
/-- The closure of Digest: every byte, in order. -/
theorem bytes_iter (n : Nat) (hn : 1 ≤ n) (l Bs n₀ c : Nat) (A : Option Addr) (xs : List UInt8) (J Jx : List UInt8 → World → Prop)
    (hY : ∀ pre x W, J pre W → pre.length < xs.length → YieldAt Fence.wide (n - 1) Try.prog l #[.int .u8 (x.toNat : Int)] W fun e W' =>
      (e = .returned (.bool true) ∧ J (pre ++ [x]) W' ∧ Below n₀ W W') ∨ (e = .returned (.bool false) ∧ Jx (pre ++ [x]) W'))
    (W : World) (hBs : W.cell? ⟨Bs, 0, none⟩ = some (.slice A xs.length c)) (hR : RB W n₀ A xs) (hl : xs.length ≤ 9223372036854775807) (h0 : J [] W) :
    CallsIn Fence.wide n Try.prog 24 #[.func (.yield l) #[] #[], .pointer (some ⟨Bs, 0, none⟩)] W fun e W' => (∃ v, e = .returned v) ∧
      ((∃ ys, ys = xs ∧ J ys W') ∨ (∃ pre, True ∧ Jx pre W')) := by
  refine callsIn_of_wp Try.func24 rfl trivial ?_ rfl
  simp only [Try.ntmps24, List.size_toArray, List.length_cons, List.length_nil, Nat.reduceAdd, Nat.reduceSub, Array.replicate_succ, Array.replicate_zero, List.push_toArray, List.append_toArray, List.nil_append, List.cons_append]
  have HY := Lib.hid hY
  have HR := Lib.hid hR
  have H0 := Lib.hid h0
  clear hY hR h0
  gi_wp2
  gi_loopw [7] (fun i wr => ∃ k : Nat, k ≤ xs.length ∧ i = .int .i64 k ∧ J (xs.take k) wr ∧ Below n₀ W wr)
    (fun i _ => xs.length - (intOf i).toNat)
  case atStart => exact ⟨0, Nat.zero_le _, rfl, H0.out, Below.refl _ _⟩
  case round =>
    obtain ⟨k, hk, rfl, hJs, hnx⟩ := hrel
    by_cases hlt : k < xs.length
    · obtain ⟨b0, o0, hA, hb, hc⟩ := (HR.out.below hnx).at_ hlt
      subst hA
      obtain ⟨fn, tmps, assign, body, hy, hRd⟩ := HY.out _ xs[k] wr hJs (by rw [List.length_take]; omega)
      have HJ := Lib.hid hJs
      have HT := Lib.hid (List.take_succ_eq_append_getElem hlt)
      clear hJs
      gi_wp2
      refine hRd.mono ?_
      rintro e W3 (⟨rfl, hJ3, hk3⟩ | ⟨rfl, hJx3⟩)
      · gi_wp2
        go_roundw
        case rel => exact ⟨k + 1, by omega, by simp, by rw [HT.out]; exact hJ3, hnx.trans hk3⟩
        case measure => simp [intOf]; omega
      · gi_wp2
        refine bodyPost_ret (results_none rfl _ _ _) rfl ?_
        exact ⟨⟨_, rfl⟩, .inr ⟨_, trivial, hJx3⟩⟩
    · obtain rfl : k = xs.length := by omega
      rw [List.take_length] at hJs
      gi_wp2
      go_end0
      exact ⟨⟨_, rfl⟩, .inl ⟨_, rfl, hJs⟩⟩

theorem bytes_stops (n : Nat) (hn : 1 ≤ n) (Bs n₀ c : Nat) (A : Option Addr) (xs : List UInt8) (w : World) (hBs : Bs < w.heap.size) (hn₀ : n₀ ≤ w.heap.size)
    (hc : w.cell? ⟨Bs, 0, none⟩ = some (.slice A xs.length c)) (hR : RB w n₀ A xs) (hl : xs.length ≤ 9223372036854775807) :
    SeqStopsK Fence.wide n Try.prog 24 #[.pointer (some ⟨Bs, 0, none⟩)] (fun x : UInt8 => #[.int .u8 (x.toNat : Int)]) (Below n₀) (fun ys => ys = xs) (fun _ => True) xs.length w :=
  fun l J Jx W hW _ _ hY h0 =>
    bytes_iter n hn l Bs n₀ c A xs J Jx hY W ((hW.cell (p := ⟨Bs, 0, none⟩) hBs).trans hc) (hR.below (hW.mono hn₀)) hl h0

theorem enter_bytes : ∀ (args : Array Value) (w : World), (callFunc 24 args).run Try.prog w = .ok (.enter 24 args) w :=
  enters_of Try.func24 (by kernel_rfl) rfl

set_option maxHeartbeats 400000 in
theorem digest_any (A : Option Addr) (c : Nat) (xs : List UInt8) (w : World) (hR : RB w w.heap.size A xs) (hl : xs.length ≤ maxLen) :
    Calls Try.prog 15 #[.slice A xs.length c] w fun e w' => e = .returned (.int .u64 (dig xs).toNat) ∧ Below w.heap.size w w' := by
  have HR := Lib.hid hR
  clear hR
  go_enter Try.func15, Try.ntmps15
  go_wp2_with fail
  have hB0 : Below w.heap.size w (w.alloc (.cells #[.slice A xs.length c] 26)) := (Below.refl _ w).alloc (Nat.le_refl _) _
  have hcell := (Blk.new w 26 #[.slice A xs.length c]).cell_of (i := 0) rfl
  have hst := bytes_stops 3 (by omega) w.heap.size (w.heap.size + 1) c A xs (w.alloc (.cells #[.slice A xs.length c] 26)) (by simp) (by simp) hcell ((HR.out.below hB0).more (by omega)) hl
  have hct := callsIn_wide.1 (digest_in 4 (by omega) 24 #[.pointer (some ⟨w.heap.size, 0, none⟩)] xs (w.alloc (.cells #[.slice A xs.length c] 26)) enter_bytes (by simpa using hst))
  clear hst hcell
  refine hct.mono ?_
  rintro e w1 ⟨rfl, hB1⟩
  go_wp2_with fail
  go_ret
  exact ⟨rfl, below_then hB0 hB1⟩
theorem digest_n (A : Option Addr) (n c : Nat) (xs : List UInt8) (w : World) (hR : RB w w.heap.size A xs) (hn : xs.length = n) (hl : n ≤ maxLen) :
    Calls Try.prog 15 #[.slice A n c] w fun e w' => e = .returned (.int .u64 (dig xs).toNat) ∧ Below w.heap.size w w' := by
  subst hn; exact digest_any A c xs w hR hl
end Go.Proofs.Ytphackphganglaa

/- RecordSizes, RecordEncodes, RecordDecodes: the walks. -/
import Derived.Test.YtejoofeoffehmaaAw13
namespace Go.Proofs.Ytejoofeoffehmaa
open Go.RowKit

attribute [local irreducible] Blk str
set_option maxRecDepth 100000 in
set_option maxHeartbeats 400000 in
theorem law_RecordSizes {w : World} (n : Int) (_hn : -9223372036854775808 ≤ n ∧ n ≤ 9223372036854775807) :
    Calls Try.prog 3 #[.int .i64 n] w fun e w' => e = .returned (.bool true) ∧ Below w.heap.size w w' := by
  go_enter Try.func3, Try.ntmps3
  go_wp2_with fail
  refine (awake_any w).mono ?_
  rintro e w1 ⟨rfl, hB1⟩
  by_cases h : n < 0 ∨ 4096 < n
  · go_wp2_with fail
    refine (size_out n h _).mono ?_
    rintro e w2 ⟨rfl, rfl⟩
    go_wp2_with fail
    refine (refsize_out n h _).mono ?_
    rintro e w2 ⟨rfl, rfl⟩
    go_wp2_with fail
    go_ret
    exact ⟨rfl, hB1⟩
  · obtain ⟨m, rfl⟩ : ∃ m : Nat, n = m := ⟨n.toNat, by omega⟩
    have hm : m ≤ 4096 := by omega
    clear h
    go_wp2_with fail
    refine (size_in m hm _).mono ?_
    rintro e w2 ⟨rfl, rfl⟩
    go_wp2_with fail
    refine (refsize_in m hm _).mono ?_
    rintro e w2 ⟨rfl, rfl⟩
    go_wp2_with fail
    go_ret
    exact ⟨rfl, hB1⟩

set_option maxRecDepth 100000 in
set_option maxHeartbeats 400000 in
theorem law_RecordEncodes {w : World} (k : Int) (_hk : -9223372036854775808 ≤ k ∧ k ≤ 9223372036854775807) (s : Int) (_hs : -9223372036854775808 ≤ s ∧ s ≤ 9223372036854775807) (P : Option Addr) (c : Nat) (p : List UInt8) (hl : p.length ≤ c) (hc : c ≤ maxLen) (hR : RB w w.heap.size P p) :
    Calls Try.prog 4 #[.agg #[.int .i64 k, .int .i64 s, .slice P p.length c]] w fun e w' => e = .returned (.bool true) ∧ Below w.heap.size w w' := by
  have hl63 : p.length ≤ 9223372036854775807 := by simp only [maxLen] at hc; omega
  obtain ⟨W, hW⟩ : ∃ W, w.alloc (.cells #[.int .i64 k, .int .i64 s, .slice P p.length c] 27) = W := ⟨_, rfl⟩
  have hB0 : Below w.heap.size w W := by rw [← hW]; exact (Below.refl _ w).alloc (Nat.le_refl _) _
  have hb : Blk W w.heap.size 27 #[.int .i64 k, .int .i64 s, .slice P p.length c] := by rw [← hW]; exact Blk.new _ _ _
  have m0 : W.cell? ⟨w.heap.size, 0, none⟩ = some (.int .i64 k) := hb.cell_of (i := 0) rfl
  have m1 : W.cell? ⟨w.heap.size, 1, none⟩ = some (.int .i64 s) := hb.cell_of (i := 1) rfl
  have m2 : W.cell? ⟨w.heap.size, 2, none⟩ = some (.slice P p.length c) := hb.cell_of (i := 2) rfl
  have HR := Lib.hid (hR.later hB0)
  have HB := Lib.hid hb
  have HL := Lib.hid hl63
  clear hR hb hl hc
  go_enter Try.func4, Try.ntmps4
  by_cases hbig : 5000 < p.length
  · go_wp2_with fail
    refine (awake_any _).mono ?_
    rintro e w1 ⟨rfl, hB1⟩
    go_wp2_with fail
    go_ret
    exact ⟨rfl, hB0.trans (hB1.mono hB0.size)⟩
  · clear hl63
    go_wp2_with fail
    refine (encode_any k s P _ c p rfl HL.out W HR.out).mono ?_
    rintro e w1 ⟨A1, c1, rfl, ho1, hB1⟩
    have hb1 := HB.out.below hB1 HB.out.lt
    have n0 : w1.cell? ⟨w.heap.size, 0, none⟩ = some (.int .i64 k) := hb1.cell_of (i := 0) rfl
    have n1 : w1.cell? ⟨w.heap.size, 1, none⟩ = some (.int .i64 s) := hb1.cell_of (i := 1) rfl
    have n2 : w1.cell? ⟨w.heap.size, 2, none⟩ = some (.slice P p.length c) := hb1.cell_of (i := 2) rfl
    have HO1 := Lib.hid ho1
    clear hb1 ho1
    go_wp2_with fail
    refine (refencode_any k s P _ c p rfl HL.out w1 ((HR.out.below hB1).more hB1.size)).mono ?_
    rintro e w2 ⟨A2, c2, rfl, ho2, hB2⟩
    have ho1 := HO1.out.below hB2
    have HO1 := Lib.hid ho1
    have HO2 := Lib.hid ho2
    clear ho1 ho2
    go_wp2_with fail
    refine (awake_any _).mono ?_
    rintro e w3 ⟨rfl, hB3⟩
    have hlx : (encL k s p).length ≤ 9223372036854775807 := by
      have := HO1.out.cap
      have := own_cap HO1.out
      omega
    have HLX := Lib.hid hlx
    clear hlx
    go_wp2_with fail
    refine (same_any A1 _ c1 (encL k s p) A2 _ c2 (encL k s p) rfl rfl HLX.out HLX.out w3 (HO1.out.below hB3).reads (HO2.out.below hB3).reads).mono ?_
    rintro e w4 ⟨rfl, hB4⟩
    rw [decide_eq_true rfl]
    go_wp2_with fail
    go_ret
    exact ⟨rfl, below_then hB0 (below_then hB1 (below_then hB2 (below_then hB3 hB4)))⟩

set_option maxRecDepth 100000 in
set_option maxHeartbeats 400000 in
theorem law_RecordDecodes {w : World} (A : Option Addr) (c : Nat) (ss : List Sec) (hl : ss.length ≤ c) (hc : c ≤ maxLen) (hR : RS w w.heap.size A ss) :
    Calls Try.prog 5 #[.slice A ss.length c] w fun e w' => e = .returned (.bool true) ∧ Below w.heap.size w w' := by
  have hz := zeroRecE
  have hc63 : c ≤ 9223372036854775807 := by simp only [maxLen] at hc; omega
  have HR := Lib.hid hR
  have HC := Lib.hid hc63
  have HL := Lib.hid hl
  clear hR hc
  generalize hL : ss.length = L at *
  have HN := Lib.hid hL
  clear hL
  go_enter Try.func5, Try.ntmps5
  by_cases hbig : 1100 < L
  · go_wp2_with fail
    refine (awake_any _).mono ?_
    rintro e w1 ⟨rfl, hB1⟩
    go_wp2_with fail
    go_ret
    exact ⟨rfl, hB1⟩
  · go_wp2_with fail
    refine (decode_any A L c ss HN.out HL.out HC.out w HR.out).mono ?_
    rintro e w1 ⟨P1, c1, rfl, ho1, hB1⟩
    obtain ⟨k, hk⟩ : ∃ k, k = (dec ss).kind := ⟨_, rfl⟩
    obtain ⟨q, hq⟩ : ∃ q, q = (dec ss).seq := ⟨_, rfl⟩
    obtain ⟨m, hm⟩ : ∃ m, m = (dec ss).n := ⟨_, rfl⟩
    obtain ⟨er, her⟩ : ∃ er, er = (dec ss).err := ⟨_, rfl⟩
    obtain ⟨xs, hxs⟩ : ∃ xs, xs = (dec ss).payload := ⟨_, rfl⟩
    rw [← hk, ← hq, ← hm, ← her, ← hxs]
    rw [← hxs] at ho1
    obtain ⟨W1, hW1⟩ : ∃ W1, w1.alloc (.cells #[.int .i64 k, .int .i64 q, .slice P1 xs.length c1] 27) = W1 := ⟨_, rfl⟩
    have hB1' : Below w1.heap.size w1 W1 := by rw [← hW1]; exact (Below.refl _ w1).alloc (Nat.le_refl _) _
    have hb1 : Blk W1 w1.heap.size 27 #[.int .i64 k, .int .i64 q, .slice P1 xs.length c1] := by rw [← hW1]; exact Blk.new _ _ _
    have ho1' := ho1.below hB1'
    have hRW := (HR.out.below (hB1.trans (hB1'.mono hB1.size))).more (hB1.trans (hB1'.mono hB1.size)).size
    have HB1 := Lib.hid hb1
    have HO1 := Lib.hid ho1'
    have HRW := Lib.hid hRW
    have HK := Lib.hid hk
    have HQ := Lib.hid hq
    have HM := Lib.hid hm
    have HE := Lib.hid her
    have HX := Lib.hid hxs
    clear hb1 ho1 ho1' hRW hk hq hm her hxs
    go_wp2_with fail
    refine (refdecode_any A L c ss HN.out HL.out HC.out W1 HRW.out).mono ?_
    rintro e w2 ⟨P2, c2, rfl, ho2, hB2⟩
    rw [← HK.out, ← HQ.out, ← HM.out, ← HE.out, ← HX.out]
    rw [← HX.out] at ho2
    obtain ⟨W2, hW2⟩ : ∃ W2, w2.alloc (.cells #[.int .i64 k, .int .i64 q, .slice P2 xs.length c2] 27) = W2 := ⟨_, rfl⟩
    have hB2' : Below w2.heap.size w2 W2 := by rw [← hW2]; exact (Below.refl _ w2).alloc (Nat.le_refl _) _
    have hb2 : Blk W2 w2.heap.size 27 #[.int .i64 k, .int .i64 q, .slice P2 xs.length c2] := by rw [← hW2]; exact Blk.new _ _ _
    have hbw := HB1.out.below (hB2.trans (hB2'.mono hB2.size)) HB1.out.lt
    have ho2' := ho2.below hB2'
    have ho1' := (HO1.out.below hB2).below hB2'
    have HB1 := Lib.hid hbw
    have HB2 := Lib.hid hb2
    have HO1 := Lib.hid ho1'
    have HO2 := Lib.hid ho2'
    clear hb2 hbw ho2 ho2' ho1'
    go_wp2_with fail
    refine (awake_any _).mono ?_
    rintro e w3 ⟨rfl, hB3⟩
    have hb1 := HB1.out.below hB3 HB1.out.lt
    have hb2 := HB2.out.below hB3 HB2.out.lt
    have a0 : w3.cell? ⟨w1.heap.size, 0, none⟩ = some (.int .i64 k) := hb1.cell_of (i := 0) rfl
    have a1 : w3.cell? ⟨w1.heap.size, 1, none⟩ = some (.int .i64 q) := hb1.cell_of (i := 1) rfl
    have a2 : w3.cell? ⟨w1.heap.size, 2, none⟩ = some (.slice P1 xs.length c1) := hb1.cell_of (i := 2) rfl
    have b0 : w3.cell? ⟨w2.heap.size, 0, none⟩ = some (.int .i64 k) := hb2.cell_of (i := 0) rfl
    have b1 : w3.cell? ⟨w2.heap.size, 1, none⟩ = some (.int .i64 q) := hb2.cell_of (i := 1) rfl
    have b2 : w3.cell? ⟨w2.heap.size, 2, none⟩ = some (.slice P2 xs.length c2) := hb2.cell_of (i := 2) rfl
    clear hb1 hb2
    go_wp2_with fail
    refine (rsame_any k q P1 _ c1 xs k q P2 _ c2 xs rfl rfl w3 (HO1.out.below hB3).reads (HO2.out.below hB3).reads).mono ?_
    rintro e w4 ⟨rfl, hB4⟩
    rw [decide_eq_true ⟨rfl, rfl, rfl⟩]
    go_wp2_with fail
    go_ret
    exact ⟨rfl, below_then hB1 (below_then hB1' (below_then hB2 (below_then hB2' (below_then hB3 hB4))))⟩
end Go.Proofs.Ytejoofeoffehmaa

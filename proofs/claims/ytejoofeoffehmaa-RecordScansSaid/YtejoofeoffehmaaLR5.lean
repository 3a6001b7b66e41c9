/- RecordScans: the walk. -/
import Derived.Test.YtejoofeoffehmaaSl
import Derived.Test.YtejoofeoffehmaaAw13
namespace Go.Proofs.Ytejoofeoffehmaa
open Go.RowKit

attribute [local irreducible] Blk str
set_option maxRecDepth 100000 in
set_option maxHeartbeats 400000 in
theorem law_RecordScans {w : World} (A : Option Addr) (c : Nat) (ss : List Sec) (hl : ss.length ≤ c) (hc : c ≤ maxLen) (hR : RS w w.heap.size A ss) (q : Int) (hq : -9223372036854775808 ≤ q ∧ q ≤ 9223372036854775807) :
    Calls Try.prog 9 #[.slice A ss.length c, .int .i64 q] w fun e w' => e = .returned (.bool true) ∧ Below w.heap.size w w' := by
  have hc63 : c ≤ 9223372036854775807 := by simp only [maxLen] at hc; omega
  have HR := Lib.hid hR
  have HC := Lib.hid hc63
  have HL := Lib.hid hl
  clear hR hc
  generalize hL : ss.length = L at *
  have HN := Lib.hid hL
  clear hL
  go_enter Try.func9, Try.ntmps9
  by_cases hbig : 300 < L
  · go_wp2_with fail
    refine (awake_any _).mono ?_
    rintro e w1 ⟨rfl, hB1⟩
    go_wp2_with fail
    go_ret
    exact ⟨rfl, hB1⟩
  · go_wp2_with fail
    refine (scan_any A L c ss HN.out HL.out HC.out (by omega) q hq w HR.out).mono ?_
    rintro e w1 ⟨A1, c1, rfl, hr1, hm1, hB1⟩
    obtain ⟨Tot, hT⟩ : ∃ Tot, Tot = scanF (ss.length + 1) ss q := ⟨_, rfl⟩
    rw [← hT] at hr1 hm1 ⊢
    have HT := Lib.hid hT
    have HR1 := Lib.hid hr1
    clear hT hr1
    go_wp2_with fail
    refine (refscan_any A L c ss HN.out HL.out HC.out (by omega) q hq w1 ((HR.out.below hB1).more hB1.size)).mono ?_
    rintro e w2 ⟨A2, c2, rfl, hr2, _, hB2⟩
    rw [← HT.out] at hr2 ⊢
    have HR2 := Lib.hid hr2
    clear hr2
    go_wp2_with fail
    refine (awake_any _).mono ?_
    rintro e w3 ⟨rfl, hB3⟩
    go_wp2_with fail
    refine (samelist_any A1 c1 A2 c2 Tot.1.length Tot.1 rfl hm1 w3 ((HR1.out.below (hB2.trans (hB3.mono hB2.size))).more (Nat.le_trans hB2.size hB3.size)) ((HR2.out.below hB3).more hB3.size)).mono ?_
    rintro e w4 ⟨rfl, hB4⟩
    go_wp2_with fail
    go_ret
    exact ⟨rfl, below_then hB1 (below_then hB2 (below_then hB3 hB4))⟩
end Go.Proofs.Ytejoofeoffehmaa

/- Contract: SameSectors. -/
import Derived.Test.YtejoofeoffehmaaCopy
import Derived.Test.YtejoofeoffehmaaBase
import Derived.Test.YtejoofeoffehmaaEq
import Derived.Deep.RegionHeld3
namespace Go.Proofs.Ytejoofeoffehmaa
open Go.RowKit

theorem range8 {w : World} {b o : Nat} {a0 a1 a2 a3 a4 a5 a6 a7 : Value} (h : w.rangeAt b o [a0, a1, a2, a3, a4, a5, a6, a7]) :
    w.cell? ⟨b, o, none⟩ = some a0 ∧ w.cell? ⟨b, o + 1, none⟩ = some a1 ∧ w.cell? ⟨b, o + 2, none⟩ = some a2 ∧ w.cell? ⟨b, o + 3, none⟩ = some a3 ∧
    w.cell? ⟨b, o + 4, none⟩ = some a4 ∧ w.cell? ⟨b, o + 5, none⟩ = some a5 ∧ w.cell? ⟨b, o + 6, none⟩ = some a6 ∧ w.cell? ⟨b, o + 7, none⟩ = some a7 :=
  ⟨h 0 _ rfl, h 1 _ rfl, h 2 _ rfl, h 3 _ rfl, h 4 _ rfl, h 5 _ rfl, h 6 _ rfl, h 7 _ rfl⟩

theorem sec_eq (a b : Sec) (d : Nat) (w : World) : (Op.equalIn (d + 2) 47 (.agg (secCells a).toArray) (.agg (secCells b).toArray)).run Try.prog w = .ok (decide (a = b)) w := by
  obtain ⟨i, h1, h2, h3, _⟩ := info_parts (P := Try.prog) (e := 5) (z := .int .u8 0) (size := 1) (bytes := 1) (by kernel_rfl)
  have := run_eq_bytes (P := Try.prog) (t := 47) (e := 5) (n := 8) under_sec h1 (by kernel_rfl) (by kernel_rfl) u8_agg d a.toList b.toList (by simp) (by simp) w
  rw [secCells, secCells, this]
  congr 1
  rw [decide_eq_decide, ← Vector.toList_inj]

theorem same_ne (A : Option Addr) (n c : Nat) (B : Option Addr) (m d : Nat) (hne : n ≠ m) (hn : n ≤ 9223372036854775807) (hm : m ≤ 9223372036854775807) (w : World) :
    Calls Try.prog 16 #[.slice A n c, .slice B m d] w fun e w' => e = .returned (.bool false) ∧ Below w.heap.size w w' := by
  have h1 : ¬ (n : Int) = m := by omega
  go_enter Try.func16, Try.ntmps16
  go_wp2_with fail
  go_ret
  exact ⟨rfl, Below.refl _ _⟩

attribute [local irreducible] Blk secCells sec0
set_option maxRecDepth 100000 in
set_option maxHeartbeats 1000000 in
theorem same_eq (A : Option Addr) (c : Nat) (xs : List Sec) (B : Option Addr) (d : Nat) (ys : List Sec) (hl : xs.length = ys.length) (hn : xs.length ≤ 9223372036854775807) (w : World) (rx : RS w w.heap.size A xs) (ry : RS w w.heap.size B ys) :
    Calls Try.prog 16 #[.slice A xs.length c, .slice B ys.length d] w fun e w' => e = .returned (.bool (decide (xs = ys))) ∧ Below w.heap.size w w' := by
  have RX := Lib.hid rx
  have RY := Lib.hid ry
  clear rx ry
  generalize hL : ys.length = L at *
  go_enter Try.func16, Try.ntmps16
  have HL := Lib.hid hL
  rw [hl]
  rw [hl] at hn
  have HXL := Lib.hid hl
  clear hL hl
  go_wp2_with fail
  go_loopw [5] (fun i wr => ∃ k : Nat, k ≤ L ∧ i = .int .i64 k ∧ Below w.heap.size w wr ∧ xs.take k = ys.take k) (fun i _ => L - (intOf i).toNat)
  case atStart => exact ⟨0, Nat.zero_le _, rfl, Below.refl _ _, rfl⟩
  case round =>
    obtain ⟨k, hk, rfl, hB, hpre⟩ := hrel
    have HP := Lib.hid hpre
    clear hpre
    by_cases hlt : k < L
    · have hx : k < xs.length := by have := HXL.out; omega
      have hy : k < ys.length := by have := HL.out; omega
      obtain ⟨b1, o1, hA, hb1, hc1⟩ := (RX.out.below hB).at_ hx
      obtain ⟨b2, o2, hB', hb2, hc2⟩ := (RY.out.below hB).at_ hy
      subst hA hB'
      have h0 : (0 : Int) ≤ (k : Int) := by omega
      have hi1 : (k : Int) < (L : Int) := by omega
      have heq := fun w => sec_eq xs[k] ys[k] 9998 w
      obtain ⟨a0, a1, a2, a3, a4, a5, a6, a7, ha⟩ := list8 (secCells xs[k]) (secCells_length _)
      obtain ⟨e0, e1, e2, e3, e4, e5, e6, e7, he'⟩ := list8 (secCells ys[k]) (secCells_length _)
      rw [ha] at hc1 heq
      rw [he'] at hc2 heq
      obtain ⟨p0, p1, p2, p3, p4, p5, p6, p7⟩ := range8 hc1
      obtain ⟨q0, q1, q2, q3, q4, q5, q6, q7⟩ := range8 hc2
      clear hc1 hc2 ha he'
      by_cases he : xs[k] = ys[k]
      · have hd : decide (xs[k] = ys[k]) = true := by simp [he]
        rw [hd] at heq
        go_wp2_with fail
        go_region
        go_wp2_with fail
        go_roundw
        case rel => exact ⟨k + 1, by omega, by simp, hB.drew, by rw [List.take_succ_eq_append_getElem hx, List.take_succ_eq_append_getElem hy, HP.out, he]⟩
        case measure => simp [intOf]; omega
      · have hd : decide (xs[k] = ys[k]) = false := by simp [he]
        rw [hd] at heq
        have hf : decide (xs = ys) = false := by
          apply decide_eq_false
          rintro rfl
          exact he rfl
        go_wp2_with fail
        go_region
        go_wp2_with fail
        go_ret
        exact ⟨by rw [hf]; rfl, hB.drew⟩
    · obtain rfl : k = L := by omega
      have ht : xs = ys := by
        have := HP.out
        rwa [List.take_of_length_le (by have := HXL.out; omega), List.take_of_length_le (by have := HL.out; omega)] at this
      go_wp2_with fail
      go_ret
      exact ⟨by rw [decide_eq_true ht]; rfl, hB⟩

theorem same_any (A : Option Addr) (n c : Nat) (xs : List Sec) (B : Option Addr) (m d : Nat) (ys : List Sec) (hx : xs.length = n) (hy : ys.length = m) (hn : n ≤ 9223372036854775807) (hm : m ≤ 9223372036854775807) (w : World) (rx : RS w w.heap.size A xs) (ry : RS w w.heap.size B ys) :
    Calls Try.prog 16 #[.slice A n c, .slice B m d] w fun e w' => e = .returned (.bool (decide (xs = ys))) ∧ Below w.heap.size w w' := by
  subst hx hy
  by_cases hl : xs.length = ys.length
  · exact same_eq A c xs B d ys hl hn w rx ry
  · have hf : decide (xs = ys) = false := decide_eq_false (fun e => hl (by rw [e]))
    rw [hf]
    exact same_ne A _ c B _ d hl hn hm w
end Go.Proofs.Ytejoofeoffehmaa

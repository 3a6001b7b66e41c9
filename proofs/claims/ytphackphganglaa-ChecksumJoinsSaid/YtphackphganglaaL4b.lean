/- ChecksumJoins: the walk. -/
import Derived.Test.YtphackphganglaaAw4
import Derived.Test.YtphackphganglaaSec
namespace Go.Proofs.Ytphackphganglaa
open Go.RowKit

set_option maxHeartbeats 1000000 in
theorem joins_big (A : Option Addr) (c : Nat) (x : List UInt8) (B : Option Addr) (d : Nat) (y : List UInt8) (w : World) (hx : x.length ≤ 9223372036854775807) (hy : y.length ≤ 9223372036854775807) (hb : 2000 < x.length ∨ 2000 < y.length) :
    Calls Try.prog 4 #[.slice A x.length c, .slice B y.length d] w fun e w' => e = .returned (.bool true) ∧ Below w.heap.size w w' := by
  by_cases h1 : 2000 < x.length
  · go_enter Try.func4, Try.ntmps4
    go_wp2_with (go_at_call 10; refine (awake_any _).mono ?_; rintro e w1 ⟨rfl, hB1⟩)
    go_ret
    exact ⟨rfl, hB1⟩
  · have h2 : 2000 < y.length := by omega
    go_enter Try.func4, Try.ntmps4
    go_wp2_with (go_at_call 10; refine (awake_any _).mono ?_; rintro e w1 ⟨rfl, hB1⟩)
    go_ret
    exact ⟨rfl, hB1⟩

set_option maxHeartbeats 1000000 in
theorem joins_small (A : Option Addr) (c : Nat) (x : List UInt8) (B : Option Addr) (d : Nat) (y : List UInt8) (w : World) (hx : x.length ≤ 2000) (hy : y.length ≤ 2000)
    (rx : RB w w.heap.size A x) (ry : RB w w.heap.size B y) :
    Calls Try.prog 4 #[.slice A x.length c, .slice B y.length d] w fun e w' => e = .returned (.bool true) ∧ Below w.heap.size w w' := by
  have HX := Lib.hid rx
  have HY := Lib.hid ry
  clear rx ry
  have h1 : ¬ 2000 < x.length := by omega
  have h2 : ¬ 2000 < y.length := by omega
  go_enter Try.func4, Try.ntmps4
  have o0 := Own.lit (base := w.heap.size) (e := 5) (size := 1) w #[] 0 (Nat.le_refl _) (by decide) rfl
  have HO := Lib.hid o0
  clear o0
  go_wp2_with (first
    | (at_builtin
       refine wpList_app _ rfl (.tmp 15) (.tmp 16) 26 rfl 5 1 1 elemB w.heap.size _ 0 0 [] rfl HO.out _ A x.length c (x.map u8v) rfl ((HX.out.alloc (Nat.le_refl _) _)) (u8v_one _) x.length (by omega) (x.map u8v) rfl (by simp only [maxLen]; omega) (by omega) (by simp) ?_
       intro A1 c1 w1 ho1 hg1 hl1
       have hB1 : Below w.heap.size w w1 := below_app ((Below.refl _ w).alloc (Nat.le_refl _) _) (by simp) (fun k hk => (HO.out.block k hk).1) hg1
       have HO1 := Lib.hid ho1
       have HG1 := Lib.hid hg1
       have HL1 := Lib.hid hl1
       clear ho1 hg1 hl1)
    | (at_builtin
       refine wpList_app _ rfl (.tmp 17) (.tmp 18) 26 rfl 5 1 1 elemB w.heap.size A1 x.length c1 (x.map u8v) rfl HO1.out _ B y.length d (y.map u8v) rfl (HY.out.below hB1) (u8v_one _) (x ++ y).length (by simp) ((x ++ y).map u8v) (by simp) (by simp only [maxLen]; rw [List.length_append]; omega) (by rw [List.length_append]; omega) hB1.size ?_
       intro A2 c2 w2 ho2 hg2 hl2
       have hB2 : Below w.heap.size w w2 := below_app hB1 hB1.size (fun k hk => (HO1.out.block k hk).1) hg2
       have HO2 := Lib.hid ho2
       have HG2 := Lib.hid hg2
       have HL2 := Lib.hid hl2
       clear ho2 hg2 hl2))
  have hR2 : RB w2 w2.heap.size A2 (x ++ y) := HO2.out.reads
  refine (sum_n _ _ _ (x ++ y) _ hR2 (by simp) (by simp only [maxLen]; omega)).mono ?_
  rintro e w3 ⟨rfl, hB3⟩
  clear hR2
  have hB3' : Below w.heap.size w w3 := hB2.trans (hB3.mono hB2.size)
  have HE1 := Lib.hid (upd_append 0 x y)
  have HE2 := Lib.hid (comb_law x y)
  generalize upd 0 (x ++ y) = U at HE1 HE2 ⊢
  go_wp2_with fail
  refine (awake_any _).mono ?_
  rintro e w4 ⟨rfl, hB4⟩
  have hB4' : Below w.heap.size w w4 := hB3'.trans (hB4.mono hB3'.size)
  go_wp2_with fail
  refine (sum_n _ _ _ x _ ((HX.out.below hB4').more hB4'.size) rfl (by simp only [maxLen]; omega)).mono ?_
  rintro e w5 ⟨rfl, hB5⟩
  have hB5' : Below w.heap.size w w5 := hB4'.trans (hB5.mono hB4'.size)
  go_wp2_with fail
  refine (update_n _ _ _ _ y _ ((HY.out.below hB5').more hB5'.size) rfl (by simp only [maxLen]; omega)).mono ?_
  rintro e w6 ⟨rfl, hB6⟩
  have hB6' : Below w.heap.size w w6 := hB5'.trans (hB6.mono hB5'.size)
  rw [HE1.out]
  go_wp2_with fail
  refine (sum_n _ _ _ x _ ((HX.out.below hB6').more hB6'.size) rfl (by simp only [maxLen]; omega)).mono ?_
  rintro e w7 ⟨rfl, hB7⟩
  have hB7' : Below w.heap.size w w7 := hB6'.trans (hB7.mono hB6'.size)
  go_wp2_with fail
  refine (sum_n _ _ _ y _ ((HY.out.below hB7').more hB7'.size) rfl (by simp only [maxLen]; omega)).mono ?_
  rintro e w8 ⟨rfl, hB8⟩
  have hB8' : Below w.heap.size w w8 := hB7'.trans (hB8.mono hB7'.size)
  go_wp2_with fail
  refine (combine_in _ _ _ _ (by omega)).mono ?_
  rintro e w9 ⟨rfl, hB9⟩
  rw [HE2.out]
  go_wp2_with fail
  go_ret
  exact ⟨rfl, hB8'.trans (hB9.mono hB8'.size)⟩

theorem law_ChecksumJoins {w : World} (A : Option Addr) (c : Nat) (x : List UInt8) (lx : x.length ≤ c) (mx : c ≤ maxLen) (rx : RB w w.heap.size A x) (B : Option Addr) (d : Nat) (y : List UInt8) (ly : y.length ≤ d) (my : d ≤ maxLen) (ry : RB w w.heap.size B y) :
    Calls Try.prog 4 #[.slice A x.length c, .slice B y.length d] w fun e w' => e = .returned (.bool true) ∧ Below w.heap.size w w' := by
  unfold maxLen at mx my
  by_cases h : 2000 < x.length ∨ 2000 < y.length
  · exact joins_big A c x B d y w (by omega) (by omega) h
  · exact joins_small A c x B d y w (by omega) (by omega) rx ry
end Go.Proofs.Ytphackphganglaa

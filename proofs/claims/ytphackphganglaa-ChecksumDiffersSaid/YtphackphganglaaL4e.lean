/- ChecksumDiffers: the walk. -/
import Derived.Test.YtphackphganglaaAw4
import Derived.Test.YtphackphganglaaSec
import Derived.Test.YtphackphganglaaCrc2
namespace Go.Proofs.Ytphackphganglaa
open Go.RowKit

set_option maxHeartbeats 1000000 in
theorem differs_big (A : Option Addr) (c : Nat) (x : List UInt8) (t : UInt16) (d : UInt8) (w : World) (hx : x.length ≤ 9223372036854775807) (hb : x.length = 0 ∨ 2000 < x.length ∨ d = 0) :
    Calls Try.prog 7 #[.slice A x.length c, .int .u16 t.toNat, .int .u8 d.toNat] w fun e w' => e = .returned (.bool true) ∧ Below w.heap.size w w' := by
  by_cases h0 : x.length = 0
  · obtain rfl : x = [] := List.eq_nil_of_length_eq_zero h0
    clear h0 hb
    go_enter Try.func7, Try.ntmps7
    go_wp2_with (go_at_call 10; refine (awake_any _).mono ?_; rintro e w1 ⟨rfl, hB1⟩)
    go_ret
    exact ⟨rfl, hB1⟩
  · have h1 : ((x.length : Int) == 0) = false := by simpa using h0
    by_cases h2 : 2000 < x.length
    · clear h0 hb
      go_enter Try.func7, Try.ntmps7
      go_wp2_with (go_at_call 10; refine (awake_any _).mono ?_; rintro e w1 ⟨rfl, hB1⟩)
      go_ret
      exact ⟨rfl, hB1⟩
    · obtain rfl : d = 0 := by
        rcases hb with hb | hb | hb
        · exact absurd hb h0
        · exact absurd hb h2
        · exact hb
      clear h0 hb
      go_enter Try.func7, Try.ntmps7
      go_wp2_with (go_at_call 10; refine (awake_any _).mono ?_; rintro e w1 ⟨rfl, hB1⟩)
      go_ret
      exact ⟨rfl, hB1⟩

theorem xor_ne (b d : UInt8) (h : d ≠ 0) : b ≠ b ^^^ d := by
  intro e
  have h1 : b ^^^ b = b ^^^ (b ^^^ d) := by rw [← e]
  rw [UInt8.xor_self, ← UInt8.xor_assoc, UInt8.xor_self, UInt8.zero_xor] at h1
  exact h h1.symm

set_option maxHeartbeats 1000000 in
theorem differs_small (A : Option Addr) (c : Nat) (x : List UInt8) (t : UInt16) (d : UInt8) (w : World) (h0 : 0 < x.length) (hx : x.length ≤ 2000) (hd : d ≠ 0) (rx : RB w w.heap.size A x) :
    Calls Try.prog 7 #[.slice A x.length c, .int .u16 t.toNat, .int .u8 d.toNat] w fun e w' => e = .returned (.bool true) ∧ Below w.heap.size w w' := by
  have HX := Lib.hid rx
  clear rx
  have h1 : ((x.length : Int) == 0) = false := by
    rw [beq_eq_false_iff_ne]
    omega
  have h2 : ¬ 2000 < x.length := by omega
  have h3 : ((d.toNat : Int) == 0) = false := by
    simp
    intro e
    exact hd (UInt8.toNat_inj.1 e)
  have ht := t.toNat_lt
  obtain ⟨i, hi, hi2⟩ : ∃ i : Nat, i < x.length ∧ (t.toNat : Int) % (x.length : Int) = (i : Int) := ⟨t.toNat % x.length, Nat.mod_lt _ h0, by omega⟩
  have HD := Lib.hid hd
  clear hd
  go_enter Try.func7, Try.ntmps7
  have o0 := Own.lit (base := w.heap.size) (e := 5) (size := 1) w #[] 0 (Nat.le_refl _) (by decide) rfl
  have HO := Lib.hid o0
  clear o0
  go_wp2_with (first
    | (at_builtin
       refine wpList_app _ rfl (.tmp 22) (.tmp 23) 26 rfl 5 1 1 elemB w.heap.size _ 0 0 [] rfl HO.out _ A x.length c (x.map u8v) rfl ((HX.out.alloc (Nat.le_refl _) _)) (u8v_one _) x.length (by omega) (x.map u8v) rfl (by simp only [maxLen]; omega) (by omega) (by simp) ?_
       intro A1 c1 w1 ho1 hg1 hl1
       have hB1 : Below w.heap.size w w1 := below_app ((Below.refl _ w).alloc (Nat.le_refl _) _) (by simp) (fun k hk => (HO.out.block k hk).1) hg1
       obtain ⟨g, cap, hv, hbg, hgl⟩ := World.ownsRow.form ho1 h0
       injection hv with hv1 hv2 hv3
       subst hv1 hv3
       have hcell := World.ownsRow.cellAt ho1 i (by omega)
       have hfr := World.ownsRow.frozenAt ho1 i
       have hget : (x.map u8v)[i]? = some (.int .u8 (x[i].toNat : Int)) := by rw [List.getElem?_map, List.getElem?_eq_getElem hi]; rfl
       rw [hget] at hcell
       obtain ⟨v, hv⟩ : ∃ v : UInt8, v = x[i] ^^^ d := ⟨_, rfl⟩
       have hst := World.ownsRow.stored ho1 i (.int .u8 (v.toNat : Int))
       have hxor : bits .xor .u8 (x[i].toNat : Int) (d.toNat : Int) = (v.toNat : Int) := by rw [hv]; exact bits_xor_u8 x[i] d
       have HV := Lib.hid hv
       have HST := Lib.hid hst
       have HO1 := Lib.hid ho1
       have HG1 := Lib.hid hg1
       have HL1 := Lib.hid hl1
       clear ho1 hg1 hl1 hget hst hv))
  clear hcell hfr hxor
  obtain ⟨ho2, hg2⟩ := HST.out
  have hB2 : Below w.heap.size w (w1.setCell ⟨g, i, none⟩ (.int .u8 (v.toNat : Int))) := hB1.setCell (p := ⟨g, i, none⟩) hbg _
  have hR2 : RB (w1.setCell ⟨g, i, none⟩ (.int .u8 (v.toNat : Int))) (w1.setCell ⟨g, i, none⟩ (.int .u8 (v.toNat : Int))).heap.size (some ⟨g, 0, none⟩) (x.set i v) := by
    have := Reads.of_own ho2
    unfold RB
    rw [List.length_set, List.map_set]
    exact this
  have HR2 := Lib.hid hR2
  clear ho2 hg2 hR2
  generalize w1.setCell ⟨g, i, none⟩ (.int .u8 (v.toNat : Int)) = w2 at HR2 hB2 ⊢
  refine (awake_any _).mono ?_
  rintro e w3 ⟨rfl, hB3⟩
  have hB3' : Below w.heap.size w w3 := hB2.trans (hB3.mono hB2.size)
  go_wp2_with fail
  refine (digest_n _ _ _ x _ ((HX.out.below hB3').more hB3'.size) rfl (by simp only [maxLen]; omega)).mono ?_
  rintro e w4 ⟨rfl, hB4⟩
  have hB4' : Below w.heap.size w w4 := hB3'.trans (hB4.mono hB3'.size)
  go_wp2_with fail
  refine (digest_n _ _ _ (x.set i v) _ ((HR2.out.step hB3).step hB4) (by simp) (by simp only [maxLen]; omega)).mono ?_
  rintro e w5 ⟨rfl, hB5⟩
  have hne : dig x ≠ dig (x.set i v) := by
    have e1 : x = x.take i ++ (x[i] :: x.drop (i + 1)) := by rw [← List.drop_eq_getElem_cons hi, List.take_append_drop]
    have e2 : x.set i v = x.take i ++ (v :: x.drop (i + 1)) := List.set_eq_take_append_cons_drop.trans (by rw [if_pos hi])
    rw [e2]
    conv => lhs; rw [e1]
    refine dig_differs _ _ _ _ ?_
    rw [HV.out]
    exact xor_ne _ _ HD.out
  have hne2 : (((dig x).toNat : Int) != ((dig (x.set i v)).toNat : Int)) = true := by
    rw [bne_iff_ne]
    intro e
    exact hne (UInt64.toNat_inj.1 (by omega))
  clear hne
  go_wp2_with fail
  go_ret
  exact ⟨rfl, hB4'.trans (hB5.mono hB4'.size)⟩

theorem law_ChecksumDiffers {w : World} (A : Option Addr) (c : Nat) (x : List UInt8) (lx : x.length ≤ c) (mx : c ≤ maxLen) (rx : RB w w.heap.size A x) (t : UInt16) (d : UInt8) :
    Calls Try.prog 7 #[.slice A x.length c, .int .u16 t.toNat, .int .u8 d.toNat] w fun e w' => e = .returned (.bool true) ∧ Below w.heap.size w w' := by
  unfold maxLen at mx
  by_cases h : x.length = 0 ∨ 2000 < x.length ∨ d = 0
  · exact differs_big A c x t d w (by omega) h
  · exact differs_small A c x t d w (by omega) (by omega) (fun e => h (.inr (.inr e))) rx
end Go.Proofs.Ytphackphganglaa

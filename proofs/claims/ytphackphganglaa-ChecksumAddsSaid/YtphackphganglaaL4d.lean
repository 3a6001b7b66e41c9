/- ChecksumAdds: the walk. -/
import Derived.Test.YtphackphganglaaAw4
import Derived.Test.YtphackphganglaaSec
import Derived.Test.YtphackphganglaaCrc2
import Derived.Deep.RegionHeld3
namespace Go.Proofs.Ytphackphganglaa
open Go.RowKit

theorem xor3_bits (U X Y Z : UInt32) (h : U = X ^^^ Y ^^^ Z) : ((U.toNat : Int) == bits .xor .u32 ((X.toNat ^^^ Y.toNat : Nat) : Int) (Z.toNat : Int)) = true := by
  rw [← UInt32.toNat_xor, bits_xor_u32, h]
  simp

set_option maxHeartbeats 1000000 in
theorem adds_walk (A : Option Addr) (a : Nat) (x : List UInt8) (B : Option Addr) (b : Nat) (y : List UInt8) (C : Option Addr) (c : Nat) (z : List UInt8) (n : Nat) (w : World)
    (hn : min (min (min x.length y.length) z.length) 2000 = n)
    (hx : x.length ≤ 9223372036854775807) (hy : y.length ≤ 9223372036854775807) (hz : z.length ≤ 9223372036854775807)
    (hx2 : x.length ≤ a) (hy2 : y.length ≤ b) (hz2 : z.length ≤ c)
    (rx : RB w w.heap.size A x) (ry : RB w w.heap.size B y) (rz : RB w w.heap.size C z) :
    Calls Try.prog 6 #[.slice A x.length a, .slice B y.length b, .slice C z.length c] w fun e w' => e = .returned (.bool true) ∧ Below w.heap.size w w' := by
  have HX := Lib.hid rx
  have HY := Lib.hid ry
  have HZ := Lib.hid rz
  clear rx ry rz
  have hmin : ∀ w, (Builtin.min_ #[3, 3, 3, 3] 3 #[.int .i64 (x.length : Int), .int .i64 (y.length : Int), .int .i64 (z.length : Int), .int .i64 2000]).run Try.prog w = .ok (.int .i64 (n : Int)) w :=
    run_min_nat4 (P := Try.prog) #[3, 3, 3, 3] 3 x.length y.length z.length 2000 n hn
  have nx : n ≤ x.length := by omega
  have ny : n ≤ y.length := by omega
  have nz : n ≤ z.length := by omega
  have n2 : n ≤ 2000 := by omega
  clear hn
  go_enter Try.func6, Try.ntmps6
  go_wp2_with fail
  clear hmin
  go_loopw [8, 9] (fun v i wr => ∃ (k : Nat) (A' : Option Addr) (c' : Nat), k ≤ n ∧ i = .int .i64 k ∧ v = .slice A' k c' ∧
      Own wr w.heap.size 5 1 A' k c' ((xor3 (x.take k) (y.take k) (z.take k)).map u8v) ∧ Below w.heap.size w wr)
    (fun _ i _ => n - (intOf i).toNat)
  case atStart => exact ⟨0, none, 0, Nat.zero_le _, rfl, rfl, Own.nil_ _ _ _ _, Below.refl _ _⟩
  case round =>
    obtain ⟨k, A', c', hk, rfl, rfl, ho, hB⟩ := hrel
    have HO := Lib.hid ho
    clear ho
    by_cases hlt : k < n
    · obtain ⟨b1, o1, hA, hb1, hc1⟩ := (HX.out.below hB).at_ (k := k) (by omega)
      obtain ⟨b2, o2, hB', hb2, hc2⟩ := (HY.out.below hB).at_ (k := k) (by omega)
      obtain ⟨b3, o3, hC, hb3, hc3⟩ := (HZ.out.below hB).at_ (k := k) (by omega)
      subst hA hB' hC
      have h0 : (0 : Int) ≤ (k : Int) := by omega
      have hi1 : (k : Int) < (x.length : Int) := by omega
      have hi2 : (k : Int) < (y.length : Int) := by omega
      have hi3 : (k : Int) < (z.length : Int) := by omega
      obtain ⟨v12, hv12⟩ : ∃ v : UInt8, v = x[k] ^^^ y[k] := ⟨_, rfl⟩
      obtain ⟨v, hv⟩ : ∃ v : UInt8, v = v12 ^^^ z[k] := ⟨_, rfl⟩
      have e12 : bits .xor .u8 ((x[k]).toNat : Int) ((y[k]).toNat : Int) = (v12.toNat : Int) := by rw [hv12]; exact bits_xor_u8 _ _
      have e3 : bits .xor .u8 (v12.toNat : Int) ((z[k]).toNat : Int) = (v.toNat : Int) := by rw [hv]; exact bits_xor_u8 _ _
      have HV := Lib.hid hv
      have HV12 := Lib.hid hv12
      clear hv hv12
      generalize hx' : x[k] = xk at *
      generalize hy' : y[k] = yk at *
      generalize hz' : z[k] = zk at *
      have HX' := Lib.hid hx'
      have HY' := Lib.hid hy'
      have HZ' := Lib.hid hz'
      clear hx' hy' hz'
      go_wp2_with fail
      go_region_held3 (fun w' => w'.cell? ⟨b1, o1 + k, none⟩ = some (.int .u8 (xk.toNat : Int)) ∧ w'.cell? ⟨b2, o2 + k, none⟩ = some (.int .u8 (yk.toNat : Int)) ∧ w'.cell? ⟨b3, o3 + k, none⟩ = some (.int .u8 (zk.toNat : Int))) (go_keep)
        ((refine step_app _ (by rfl) (.tmp 22) (.tmp 37) 26 (by rfl) 5 1 1 elemB w.heap.size A' k c' ((xor3 (x.take k) (y.take k) (z.take k)).map u8v) (by rfl) (HO.out.drew.alloc _) (wr.heap.size + 1) (some ⟨wr.heap.size, 0, none⟩) 1 1 [u8v v] (by rfl) (reads_one _ _ _) (by simp [u8v, Value.oneCell']) (k + 1) rfl ((xor3 (x.take k) (y.take k) (z.take k)).map u8v ++ [u8v v]) rfl (by simp only [maxLen]; omega) (by omega) (by have := hB.size; simp; omega) ?_; intro A2 c2 w2 ho2 hg2 hl2; have hbb : Below w.heap.size wr w2 := below_app (((Below.refl _ wr).drew).alloc hB.size _) (by have := hB.size; simp; omega) (fun q hq => (HO.out.block q hq).1) hg2; have k1 := (hbb.cell (p := ⟨b1, o1 + k, none⟩) hb1).trans hc1; have k2 := (hbb.cell (p := ⟨b2, o2 + k, none⟩) hb2).trans hc2; have k3 := (hbb.cell (p := ⟨b3, o3 + k, none⟩) hb3).trans hc3; have HO2 := Lib.hid ho2; have HG2 := Lib.hid hg2; have HL2 := Lib.hid hl2; clear ho2 hg2 hl2))
      go_wp2_with fail
      go_roundw
      case rel =>
        refine ⟨k + 1, A2, c2, by omega, by go_num, rfl, ?_, hB.trans hbb⟩
        have := HO2.out
        rw [xor3_take_succ x y z k (by omega) (by omega) (by omega), List.map_append, HX'.out, HY'.out, HZ'.out, ← HV12.out, ← HV.out]
        exact this
      case measure => simp [intOf]; omega
    · obtain rfl : k = n := by omega
      have hlx : (x.take k).length = k := by rw [List.length_take]; omega
      have hly : (y.take k).length = k := by rw [List.length_take]; omega
      have hlz : (z.take k).length = k := by rw [List.length_take]; omega
      have HE := Lib.hid (upd_xor3 (x.take k) (y.take k) (z.take k) (hly.trans hlx.symm) (hlz.trans hlx.symm))
      have hl3 := (xor3_length (x.take k) (y.take k) (z.take k) (hly.trans hlx.symm) (hlz.trans hlx.symm)).trans hlx
      have HL3 := Lib.hid hl3
      have HLX := Lib.hid hlx
      have HLY := Lib.hid hly
      have HLZ := Lib.hid hlz
      clear hl3 hlx hly hlz
      have h0 : (0 : Int) ≤ (k : Int) := by omega
      have hk1 : (k : Int) ≤ (a : Int) := by omega
      have hk2 : (k : Int) ≤ (b : Int) := by omega
      have hk3 : (k : Int) ≤ (c : Int) := by omega
      have HR3 : Hid (RB wr wr.heap.size A' (xor3 (x.take k) (y.take k) (z.take k))) := by
        have := HO.out.reads
        show RB _ _ _ _
        unfold RB
        rw [HL3.out]
        exact this
      have HX2 := Lib.hid (((HX.out.later hB).take_ (k := k) (by omega)))
      have HY2 := Lib.hid (((HY.out.later hB).take_ (k := k) (by omega)))
      have HZ2 := Lib.hid (((HZ.out.later hB).take_ (k := k) (by omega)))
      have hbr := Below.refl wr.heap.size wr
      go_wp2_with fail
      go_region_held3 (fun w' => Below wr.heap.size wr w') (first | assumption | exact hbr.drew)
        (first
          | (go_at_call 10; refine (awake_any _).mono ?_; rintro e w5 ⟨rfl, hB5⟩; have hN : Below wr.heap.size wr w5 := below_next (by assumption) hB5)
          | (go_at_call 13; (with_reducible refine (sum_n A' k c' (xor3 (x.take k) (y.take k) (z.take k)) _ (HR3.out.later (by assumption)) HL3.out (by simp only [maxLen]; omega)).mono ?_); rintro e w6 ⟨rfl, hB6⟩; have hN : Below wr.heap.size wr w6 := below_next (by assumption) hB6)
          | (go_at_call 13; (with_reducible refine (sum_n A k a (x.take k) _ (HX2.out.later (by assumption)) HLX.out (by simp only [maxLen]; omega)).mono ?_); rintro e w7 ⟨rfl, hB7⟩; have hN : Below wr.heap.size wr w7 := below_next (by assumption) hB7)
          | (go_at_call 13; (with_reducible refine (sum_n B k b (y.take k) _ (HY2.out.later (by assumption)) HLY.out (by simp only [maxLen]; omega)).mono ?_); rintro e w8 ⟨rfl, hB8⟩; have hN : Below wr.heap.size wr w8 := below_next (by assumption) hB8)
          | (go_at_call 13; (with_reducible refine (sum_n C k c (z.take k) _ (HZ2.out.later (by assumption)) HLZ.out (by simp only [maxLen]; omega)).mono ?_); rintro e w9 ⟨rfl, hB9⟩; have hN : Below wr.heap.size wr w9 := below_next (by assumption) hB9))
      go_wp2_with fail
      go_ret
      refine ⟨?_, hB.trans (hN.mono hB.size)⟩
      show Ending.returned (Value.bool (((upd 0 (xor3 (x.take k) (y.take k) (z.take k))).toNat : Int) == bits .xor .u32 (((upd 0 (x.take k)).toNat ^^^ (upd 0 (y.take k)).toNat : Nat) : Int) ((upd 0 (z.take k)).toNat : Int))) = _
      rw [xor3_bits _ _ _ _ HE.out]

theorem law_ChecksumAdds {w : World} (A : Option Addr) (a : Nat) (x : List UInt8) (lx : x.length ≤ a) (mx : a ≤ maxLen) (rx : RB w w.heap.size A x) (B : Option Addr) (b : Nat) (y : List UInt8) (ly : y.length ≤ b) (my : b ≤ maxLen) (ry : RB w w.heap.size B y)
    (C : Option Addr) (c : Nat) (z : List UInt8) (lz : z.length ≤ c) (mz : c ≤ maxLen) (rz : RB w w.heap.size C z) :
    Calls Try.prog 6 #[.slice A x.length a, .slice B y.length b, .slice C z.length c] w fun e w' => e = .returned (.bool true) ∧ Below w.heap.size w w' := by
  unfold maxLen at mx my mz
  exact adds_walk A a x B b y C c z _ w rfl (by omega) (by omega) (by omega) lx ly lz rx ry rz
end Go.Proofs.Ytphackphganglaa

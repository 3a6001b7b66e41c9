/- ChecksumDetects: the walk. -/
import Derived.Test.YtphackphganglaaAw4
import Derived.Test.YtphackphganglaaSec
import Derived.Test.YtphackphganglaaCrc2
import Derived.Test.YtphackphganglaaEq
import Derived.StillTailTactics
namespace Go.Proofs.Ytphackphganglaa
open Go.RowKit

def arr4 (d0 d1 d2 d3 : UInt8) : Value := .agg #[.int .u8 (d0.toNat : Int), .int .u8 (d1.toNat : Int), .int .u8 (d2.toNat : Int), .int .u8 (d3.toNat : Int)]

theorem info_u8 : ∃ i, Try.prog.info? 5 = some i := Option.isSome_iff_exists.1 (by kernel_rfl)
theorem cells_u8 : Try.prog.cellsOf 5 = 1 := by kernel_rfl
theorem under_arr4 : Try.prog.underlying 31 = some (.array 4 5) := by kernel_rfl
theorem arr4_eq (d0 d1 d2 d3 : UInt8) (hd : ¬ (d0 = 0 ∧ d1 = 0 ∧ d2 = 0 ∧ d3 = 0)) (w : World) :
    (Op.equalIn 10000 31 (.agg #[.int .u8 (d0.toNat : Int), .int .u8 (d1.toNat : Int), .int .u8 (d2.toNat : Int), .int .u8 (d3.toNat : Int)]) (.agg #[.int .u8 0, .int .u8 0, .int .u8 0, .int .u8 0])).run Try.prog w = .ok false w := by
  obtain ⟨i, hi⟩ := info_u8
  have h := run_eq_bytes under_arr4 hi cells_u8 Try.underlying5 u8_agg 9998 [d0, d1, d2, d3] [0, 0, 0, 0] rfl rfl w
  rw [show decide ([d0, d1, d2, d3] = [0, 0, 0, 0]) = false from by simpa using hd] at h
  exact h
theorem arr4_eq0 (w : World) :
    (Op.equalIn 10000 31 (.agg #[.int .u8 0, .int .u8 0, .int .u8 0, .int .u8 0]) (.agg #[.int .u8 0, .int .u8 0, .int .u8 0, .int .u8 0])).run Try.prog w = .ok true w := by
  obtain ⟨i, hi⟩ := info_u8
  exact run_eq_bytes under_arr4 hi cells_u8 Try.underlying5 u8_agg 9998 [0, 0, 0, 0] [0, 0, 0, 0] rfl rfl w

/-- The bytes with the first k of four places turned. -/
def turn (x : List UInt8) (i : Nat) (ds : List UInt8) : Nat → List UInt8
  | 0 => x
  | k + 1 => (turn x i ds k).set (i + k) ((turn x i ds k).getD (i + k) 0 ^^^ ds.getD k 0)
theorem turn_length (x : List UInt8) (i : Nat) (ds : List UInt8) (k : Nat) : (turn x i ds k).length = x.length := by
  induction k with
  | zero => rfl
  | succ k ih => rw [turn, List.length_set, ih]

theorem turn_four (p q : List UInt8) (b0 b1 b2 b3 d0 d1 d2 d3 : UInt8) : turn (p ++ ([b0, b1, b2, b3] ++ q)) p.length [d0, d1, d2, d3] 4 = p ++ ([b0 ^^^ d0, b1 ^^^ d1, b2 ^^^ d2, b3 ^^^ d3] ++ q) := by
  simp [turn, List.getD_eq_getElem?_getD, List.set_append_right, List.getElem?_append_right]
theorem turn_detects (x : List UInt8) (i : Nat) (d0 d1 d2 d3 : UInt8) (hi : i + 3 < x.length) (hd : ¬ (d0 = 0 ∧ d1 = 0 ∧ d2 = 0 ∧ d3 = 0)) : upd 0 x ≠ upd 0 (turn x i [d0, d1, d2, d3] 4) := by
  have e : x = x.take i ++ ([x[i], x[i + 1], x[i + 2], x[i + 3]] ++ x.drop (i + 4)) := by
    conv => lhs; rw [← List.take_append_drop i x]
    congr 1
    rw [List.drop_eq_getElem_cons (by omega : i < x.length), List.drop_eq_getElem_cons (by omega : i + 1 < x.length), List.drop_eq_getElem_cons (by omega : i + 1 + 1 < x.length), List.drop_eq_getElem_cons (by omega : i + 1 + 1 + 1 < x.length)]
    rfl
  have hl : (x.take i).length = i := by rw [List.length_take]; omega
  generalize x.take i = p at e hl
  subst hl
  rw [e, turn_four]
  exact upd_detects _ _ _ _ _ _ _ _ _ _ hd

set_option maxHeartbeats 1000000 in
theorem detects_small (A : Option Addr) (a : Nat) (x : List UInt8) (t : UInt16) (d0 d1 d2 d3 : UInt8) (w : World)
    (h4 : 4 ≤ x.length) (hx : x.length ≤ 2000) (hd : ¬ (d0 = 0 ∧ d1 = 0 ∧ d2 = 0 ∧ d3 = 0)) (rx : RB w w.heap.size A x) :
    Calls Try.prog 5 #[.slice A x.length a, .int .u16 t.toNat, arr4 d0 d1 d2 d3] w fun e w' => e = .returned (.bool true) ∧ Below w.heap.size w w' := by
  have HX := Lib.hid rx
  have HD := Lib.hid hd
  clear rx hd
  have h1 : ¬ (x.length : Int) < 4 := by omega
  have h2 : ¬ 2000 < x.length := by omega
  unfold arr4
  go_enter Try.func5, Try.ntmps5
  have he := arr4_eq d0 d1 d2 d3 HD.out
  have ht := t.toNat_lt
  have hpos : (1 : Int) ≤ (x.length : Int) - 3 := by omega
  obtain ⟨i, hi, hi2⟩ : ∃ i : Nat, i + 3 < x.length ∧ (t.toNat : Int) % ((x.length : Int) - 3) = (i : Int) := by
    refine ⟨t.toNat % (x.length - 3), ?_, ?_⟩
    · have := Nat.mod_lt t.toNat (show 0 < x.length - 3 by omega); omega
    · have : ((x.length : Int) - 3) = ((x.length - 3 : Nat) : Int) := by omega
      rw [this]; omega
  have o0 := Own.lit (base := w.heap.size) (e := 5) (size := 1) (w.alloc (.cells #[.int .u8 (d0.toNat : Int), .int .u8 (d1.toNat : Int), .int .u8 (d2.toNat : Int), .int .u8 (d3.toNat : Int)] 31)) #[] 0 (by simp) (by decide) rfl
  rw [World.size_alloc] at o0
  have HO := Lib.hid o0
  clear o0
  have hb4 := Blk.new w 31 #[.int .u8 (d0.toNat : Int), .int .u8 (d1.toNat : Int), .int .u8 (d2.toNat : Int), .int .u8 (d3.toNat : Int)]
  have HB4 := Lib.hid hb4
  clear hb4
  go_wp2_with (first
    | (at_builtin
       refine wpList_app _ rfl (.tmp 24) (.tmp 25) 26 rfl 5 1 1 elemB w.heap.size _ 0 0 [] rfl HO.out _ A x.length a (x.map u8v) rfl ((HX.out.alloc (Nat.le_refl _) _).alloc (by simp) _) (u8v_one _) x.length (by omega) (x.map u8v) rfl (by simp only [maxLen]; omega) (by omega) (by simp; omega) ?_
       intro A1 c1 w1 ho1 hg1 hl1
       have hB1 : Below w.heap.size w w1 := below_app (((Below.refl _ w).alloc (Nat.le_refl _) _).alloc (by simp) _) (by simp; omega) (fun k hk => (HO.out.block k hk).1) hg1
       have HO1 := Lib.hid ho1
       have HG1 := Lib.hid hg1
       have HL1 := Lib.hid hl1
       clear ho1 hg1 hl1))
  obtain ⟨g, cap, hv, hbg, hgl⟩ := World.ownsRow.form HO1.out (by omega)
  injection hv with hv1 hv2 hv3
  subst hv1 hv3
  have hb4 : Blk w1 w.heap.size 31 #[.int .u8 (d0.toNat : Int), .int .u8 (d1.toNat : Int), .int .u8 (d2.toNat : Int), .int .u8 (d3.toNat : Int)] := by
    have h1 := (HB4.out.alloc (.cells #[] 5)).grown HG1.out (by simp)
    exact h1
  have hne : w.heap.size ≠ g := by
    have := own_blk_ne HO1.out hb4 (by decide)
    intro e
    exact this (by rw [e]; rfl)
  have HB5 := Lib.hid hb4
  clear hb4 he
  generalize hds : [d0, d1, d2, d3] = ds at *
  have hdl : ds.length = 4 := by rw [← hds]; rfl
  have harr : (#[.int .u8 (d0.toNat : Int), .int .u8 (d1.toNat : Int), .int .u8 (d2.toNat : Int), .int .u8 (d3.toNat : Int)] : Array Value) = (ds.map u8v).toArray := by rw [← hds]; rfl
  have HDS := Lib.hid hds
  have HARR := Lib.hid harr
  clear hds harr
  go_loopw [9] (fun j wr => ∃ k : Nat, k ≤ 4 ∧ j = .int .i64 k ∧ Own wr w.heap.size 5 1 (some ⟨g, 0, none⟩) x.length c1 ((turn x i ds k).map u8v) ∧
      Blk wr w.heap.size 31 (ds.map u8v).toArray ∧ Below w.heap.size w wr) (fun j _ => 4 - (intOf j).toNat)
  case atStart => exact ⟨0, by omega, rfl, HO1.out, by rw [← HARR.out]; exact HB5.out, hB1⟩
  case round =>
    obtain ⟨k, hk, rfl, ho, hb, hB⟩ := hrel
    by_cases hlt : k < 4
    · have hln := turn_length x i ds k
      have hik : i + k < (turn x i ds k).length := by omega
      have hcell := World.ownsRow.cellAt ho (i + k) (by omega)
      have hfr := World.ownsRow.frozenAt ho (i + k)
      rw [List.getElem?_map, List.getElem?_eq_getElem hik] at hcell
      have hcb := hb.cell k
      have hkd : k < ds.length := by omega
      have hget : (ds.map u8v).toArray[k]? = some (u8v ds[k]) := by simp [hkd]
      rw [hget] at hcb
      obtain ⟨v, hv⟩ : ∃ v : UInt8, v = (turn x i ds k)[i + k] ^^^ ds[k] := ⟨_, rfl⟩
      have hxor : bits .xor .u8 (((turn x i ds k)[i + k]).toNat : Int) ((ds[k]).toNat : Int) = (v.toNat : Int) := by rw [hv]; exact bits_xor_u8 _ _
      have hst := World.ownsRow.stored ho (i + k) (.int .u8 (v.toNat : Int))
      have hturn : turn x i ds (k + 1) = (turn x i ds k).set (i + k) v := by
        rw [turn, hv]
        congr 1
        simp [List.getD_eq_getElem?_getD, hik, hkd]
      generalize (turn x i ds k)[i + k] = p at hcell hxor
      generalize ds[k] = q at hcb hxor
      have hcell' : wr.cell? ⟨g, i + k, none⟩ = some (.int .u8 (p.toNat : Int)) := hcell
      have hcb' : wr.cell? ⟨w.heap.size, k, none⟩ = some (.int .u8 (q.toNat : Int)) := hcb
      have HST := Lib.hid hst
      have HV := Lib.hid hv
      have HT := Lib.hid hturn
      have HLN := Lib.hid hln
      clear hst hv hturn hln ho hcell hcb hget
      have h0 : (0 : Int) ≤ (i : Int) + (k : Int) := by omega
      have h00 : (0 : Int) ≤ (k : Int) := by omega
      have hk4 : (k : Int) < 4 := by omega
      have hik2 : (i : Int) + (k : Int) < (x.length : Int) := by omega
      go_wp2_with fail
      go_region
      go_wp2_with fail
      go_roundw
      case rel =>
        refine ⟨k + 1, by omega, by go_num, ?_, (hb.far (p := ⟨g, i + k, none⟩) hne _).drew, (hB.setCell (p := ⟨g, i + k, none⟩) hbg _).drew⟩
        rw [HT.out, List.map_set]
        exact HST.out.1.drew
      case measure => simp [intOf]; omega
    · obtain rfl : k = 4 := by omega
      have HB := Lib.hid hb
      have hR : RB wr wr.heap.size (some ⟨g, 0, none⟩) (turn x i ds 4) := by
        have := Reads.of_own ho
        unfold RB
        rw [turn_length]
        exact this
      have HR := Lib.hid hR
      clear hb ho hR
      go_wp2_with fail
      refine (awake_any _).mono ?_
      rintro e w3 ⟨rfl, hB3⟩
      have hB3' : Below w.heap.size w w3 := below_next hB hB3
      go_wp2_with fail
      refine (sum_n _ _ _ x _ (HX.out.later hB3') rfl (by simp only [maxLen]; omega)).mono ?_
      rintro e w4 ⟨rfl, hB4⟩
      have hB4' : Below w.heap.size w w4 := below_next hB3' hB4
      go_wp2_with fail
      refine (sum_n _ _ _ (turn x i ds 4) _ ((HR.out.step hB3).step hB4) (turn_length _ _ _ _) (by simp only [maxLen]; omega)).mono ?_
      rintro e w5 ⟨rfl, hB5⟩
      have hne2 : (((upd 0 x).toNat : Int) != ((upd 0 (turn x i ds 4)).toNat : Int)) = true := by
        rw [bne_iff_ne]
        intro e
        rw [← HDS.out] at e
        exact turn_detects x i d0 d1 d2 d3 hi HD.out (UInt32.toNat_inj.1 (by omega))
      go_wp2_with fail
      go_ret
      exact ⟨rfl, below_next hB4' hB5⟩

set_option maxHeartbeats 1000000 in
theorem detects_big (A : Option Addr) (a : Nat) (x : List UInt8) (t : UInt16) (d0 d1 d2 d3 : UInt8) (w : World) (hl : x.length ≤ 9223372036854775807)
    (hb : x.length < 4 ∨ 2000 < x.length ∨ (d0 = 0 ∧ d1 = 0 ∧ d2 = 0 ∧ d3 = 0)) :
    Calls Try.prog 5 #[.slice A x.length a, .int .u16 t.toNat, arr4 d0 d1 d2 d3] w fun e w' => e = .returned (.bool true) ∧ Below w.heap.size w w' := by
  unfold arr4
  by_cases h1 : (x.length : Int) < 4
  · clear hb
    go_enter Try.func5, Try.ntmps5
    go_wp2_with (go_at_call 10; refine (awake_any _).mono ?_; rintro e w1 ⟨rfl, hB1⟩)
    go_ret
    exact ⟨rfl, below_next ((Below.refl _ w).alloc (Nat.le_refl _) _) hB1⟩
  · by_cases h2 : 2000 < x.length
    · clear hb
      go_enter Try.func5, Try.ntmps5
      go_wp2_with (go_at_call 10; refine (awake_any _).mono ?_; rintro e w1 ⟨rfl, hB1⟩)
      go_ret
      exact ⟨rfl, below_next ((Below.refl _ w).alloc (Nat.le_refl _) _) hB1⟩
    · obtain ⟨rfl, rfl, rfl, rfl⟩ : d0 = 0 ∧ d1 = 0 ∧ d2 = 0 ∧ d3 = 0 := by
        rcases hb with hb | hb | hb
        · exfalso; omega
        · exact absurd hb h2
        · exact hb
      clear hb
      have he := arr4_eq0
      go_enter Try.func5, Try.ntmps5
      go_wp2_with (go_at_call 10; refine (awake_any _).mono ?_; rintro e w1 ⟨rfl, hB1⟩)
      go_ret
      exact ⟨rfl, below_next ((Below.refl _ w).alloc (Nat.le_refl _) _) hB1⟩

theorem law_ChecksumDetects {w : World} (A : Option Addr) (c : Nat) (x : List UInt8) (lx : x.length ≤ c) (mx : c ≤ maxLen) (rx : RB w w.heap.size A x) (t : UInt16) (ds : List UInt8) (hd : ds.length = 4) :
    Calls Try.prog 5 #[.slice A x.length c, .int .u16 t.toNat, .agg (ds.map u8v).toArray] w fun e w' => e = .returned (.bool true) ∧ Below w.heap.size w w' := by
  unfold maxLen at mx
  match ds, hd with
  | [d0, d1, d2, d3], _ =>
    by_cases h : x.length < 4 ∨ 2000 < x.length ∨ (d0 = 0 ∧ d1 = 0 ∧ d2 = 0 ∧ d3 = 0)
    · exact detects_big A c x t d0 d1 d2 d3 w (by omega) h
    · exact detects_small A c x t d0 d1 d2 d3 w (by omega) (by omega) (fun e => h (.inr (.inr e))) rx
end Go.Proofs.Ytphackphganglaa

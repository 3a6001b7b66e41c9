/- Contracts: record. -/
import Derived.Test.YtejoofeoffehmaaDec4
namespace Go.Proofs.Ytejoofeoffehmaa
open Go.RowKit

def sumOk (xs : List UInt8) (ln : Nat) : Prop := getNat ((xs.drop (3 + ln)).take 4) = (upd 0 (xs.take (3 + ln))).toNat
instance (xs : List UInt8) (ln : Nat) : Decidable (sumOk xs ln) := inferInstanceAs (Decidable (_ = _))
def formOk (xs : List UInt8) (ln : Nat) : Prop := getNat (xs.take 1) ≠ 0 ∧ (xs.drop (7 + ln)).all (· == 0) = true
instance (xs : List UInt8) (ln : Nat) : Decidable (formOk xs ln) := inferInstanceAs (Decidable (_ ∧ _))

def RecPost (g num N ln : Nat) (xs : List UInt8) (w : World) (e : Ending) (w' : World) : Prop :=
  Below g w w' ∧ ((¬ sumOk xs ln ∧ e = .panicked [{ v := failV 9, recovered := false }]) ∨ (sumOk xs ln ∧ ¬ formOk xs ln ∧ e = .panicked [{ v := failV 3, recovered := false }]) ∨
    (sumOk xs ln ∧ formOk xs ln ∧ w'.cell? ⟨g, 2, none⟩ = some (.int .i64 N) ∧ ∃ P c, e = .returned (.agg #[.int .i64 (getNat (xs.take 1) : Nat), .int .i64 num, .slice P ln c]) ∧ Own w' w.heap.size 5 1 P ln c (((xs.drop 3).take ln).map u8v)))

theorem rangeAt_tail {w : World} {b o : Nat} {xs : List UInt8} (h : w.rangeAt b o (xs.map u8v)) (k : Nat) : w.rangeAt b (o + k) ((xs.drop k).map u8v) := by
  rw [List.map_drop]; exact rangeAt_drop h k
theorem rangeAt_below {w w' : World} {b o B : Nat} {xs : List Value} (h : w.rangeAt b o xs) (hb : Below B w w') (hB : b < B) : w'.rangeAt b o xs := fun j v hv => (hb.cell (p := ⟨b, o + j, none⟩) hB).trans (h j v hv)

theorem reads_of_range {w : World} {b o B n : Nat} {xs : List UInt8} (h : w.rangeAt b o (xs.map u8v)) (hn : n ≤ xs.length) (hB : b < B) : Reads w B 1 (some ⟨b, o, none⟩) n ((xs.take n).map u8v) := by
  refine ⟨by rw [List.length_map, List.length_take]; omega, fun _ => ⟨b, o, rfl, hB, fun j v hv => ?_⟩⟩
  rw [List.map_take] at hv
  exact h j v (by
    have hj : j < n := by
      have := (List.getElem?_eq_some_iff.1 hv).1
      rw [List.length_take] at this; omega
    rwa [List.getElem?_take, if_pos hj] at hv)

attribute [local irreducible] Blk
set_option maxRecDepth 100000 in
set_option maxHeartbeats 400000 in
theorem record_any (g b m c num N ln : Nat) (xs : List UInt8) (hm : m ≤ c) (h63 : c ≤ 9223372036854775807) (hl : xs.length = m) (hln : getNat ((xs.drop 1).take 2) = ln) (hfit : 7 + ln ≤ m) (hln4 : ln ≤ 4096) (hbg : b ≠ g) (w : World)
    (hb : Blk w g 71 #[.slice (some ⟨b, 0, none⟩) m c, .int .i64 num, .int .i64 N]) (hR : w.rangeAt b 0 (xs.map u8v)) (hbw : b < w.heap.size) :
    Calls Try.prog 31 #[.pointer (some ⟨g, 0, none⟩)] w (RecPost g num N ln xs w) := by
  have hgw := hb.lt
  obtain ⟨W, hW⟩ : ∃ W, w.alloc (.cells rec0 27) = W := ⟨_, rfl⟩
  have hB0 : Below w.heap.size w W := by rw [← hW]; exact (Below.refl _ w).alloc (Nat.le_refl _) _
  have hb0 := hb.below hB0 hgw
  have hR0 := rangeAt_below hR hB0 hbw
  have hblk : Blk W w.heap.size 27 rec0 := by rw [← hW]; exact Blk.new _ _ _
  have hz := zeroRec
  have HBLK := Lib.hid hblk
  have HR0 := Lib.hid hR0
  have hWs := hB0.size
  have c0 : W.cell? ⟨g, 0, none⟩ = some (.slice (some ⟨b, 0, none⟩) m c) := hb0.cell_of (i := 0) rfl
  have f0 := hb0.frozen 0
  have HB0 := Lib.hid hb0
  clear hb hR hblk hR0 hb0
  go_enter Try.func31, Try.ntmps31
  go_wp2_with fail
  clear hW
  have hn1 := bnumber_any g b 0 m c 1 xs (by omega) hm h63 (by omega) hl hbg W c0 f0 HR0.out
  refine hn1.mono ?_
  clear hn1
  rintro e w1 ⟨rfl, hw1⟩
  rw [if_neg (by omega), Nat.zero_add] at hw1
  have hb1 : Blk w1 g 71 #[.slice (some ⟨b, 1, none⟩) (m - 1) (c - 1), .int .i64 num, .int .i64 N] := by rw [hw1]; exact HB0.out.set_ 0 _
  have hR1 : w1.rangeAt b 1 ((xs.drop 1).map u8v) := by
    have := rangeAt_tail HR0.out 1
    rw [Nat.zero_add] at this
    rw [hw1]; exact rangeAt_set this _ hbg _
  have hB1 : Below g W w1 := by rw [hw1]; exact (Below.refl _ W).setCell (p := ⟨g, 0, none⟩) (Nat.le_refl _) _
  have hrb1 : Blk w1 w.heap.size 27 rec0 := by rw [hw1]; exact HBLK.out.far (p := ⟨g, 0, none⟩) (Ne.symm (Nat.ne_of_lt hgw)) _
  have HF1 := Lib.hid (show w1.rangeAt b 0 (xs.map u8v) by rw [hw1]; exact rangeAt_set HR0.out _ hbg _)
  have HR1 := Lib.hid hR1
  have HB1 := Lib.hid hb1
  have HRB1 := Lib.hid hrb1
  have c1 : w1.cell? ⟨g, 0, none⟩ = some (.slice (some ⟨b, 1, none⟩) (m - 1) (c - 1)) := hb1.cell_of (i := 0) rfl
  have f1 := hb1.frozen 0
  clear hw1 c0 f0 hb1 hR1 hrb1
  go_wp2_with fail
  have hn2 := bnumber_any g b 1 (m - 1) (c - 1) 2 (xs.drop 1) (by omega) (by omega) (by omega) (by omega) (by rw [List.length_drop, hl]) hbg w1 c1 f1 HR1.out
  rw [hln] at hn2
  refine hn2.mono ?_
  clear hn2
  rintro e w2 ⟨rfl, hw2⟩
  rw [if_neg (by omega)] at hw2
  have hb2 : Blk w2 g 71 #[.slice (some ⟨b, 3, none⟩) (m - 3) (c - 3), .int .i64 num, .int .i64 N] := by rw [hw2]; exact HB1.out.set_ 0 _
  have hR2 : w2.rangeAt b 3 ((xs.drop 3).map u8v) := by
    have := rangeAt_tail HR1.out 2
    rw [List.drop_drop] at this
    rw [hw2]; exact rangeAt_set this _ hbg _
  have hB2 : Below g W w2 := by rw [hw2]; exact hB1.setCell (p := ⟨g, 0, none⟩) (Nat.le_refl _) _
  have hrb2 : Blk w2 w.heap.size 27 rec0 := by rw [hw2]; exact HRB1.out.far (p := ⟨g, 0, none⟩) (Ne.symm (Nat.ne_of_lt hgw)) _
  have HF2 := Lib.hid (show w2.rangeAt b 0 (xs.map u8v) by rw [hw2]; exact rangeAt_set HF1.out _ hbg _)
  have HR2 := Lib.hid hR2
  have HB2 := Lib.hid hb2
  have HRB2 := Lib.hid hrb2
  have c2 : w2.cell? ⟨g, 0, none⟩ = some (.slice (some ⟨b, 3, none⟩) (m - 3) (c - 3)) := hb2.cell_of (i := 0) rfl
  have f2 := hb2.frozen 0
  clear hw2 c1 f1 hb2 hR2 hrb2
  go_wp2_with fail
  have hn3 := take_any g b 3 (m - 3) (c - 3) ln (by omega) (by omega) (by omega) w2 c2 f2
  refine hn3.mono ?_
  clear hn3
  rintro e w3 ⟨rfl, hw3⟩
  rw [if_neg (by omega)] at hw3
  have hb3 : Blk w3 g 71 #[.slice (some ⟨b, 3 + ln, none⟩) (m - 3 - ln) (c - 3 - ln), .int .i64 num, .int .i64 N] := by rw [hw3]; exact HB2.out.set_ 0 _
  have hF3 : w3.rangeAt b 0 (xs.map u8v) := by rw [hw3]; exact rangeAt_set HF2.out _ hbg _
  have hB3 : Below g W w3 := by rw [hw3]; exact hB2.setCell (p := ⟨g, 0, none⟩) (Nat.le_refl _) _
  have hrb3 : Blk w3 w.heap.size 27 rec0 := by rw [hw3]; exact HRB2.out.far (p := ⟨g, 0, none⟩) (Ne.symm (Nat.ne_of_lt hgw)) _
  have hbw3 : b < w3.heap.size := by have := hB3.size; omega
  have hcl := clone_any b 3 ln (c - 3) ((xs.drop 3).take ln) (by omega) w3 (by
    have h1 := rangeAt_tail hF3 3
    rw [Nat.zero_add] at h1
    exact reads_of_range h1 (by rw [List.length_drop]; omega) hbw3)
  have HF3 := Lib.hid hF3
  have HB3 := Lib.hid hb3
  have HRB3 := Lib.hid hrb3
  have HCL := Lib.hid hcl
  clear hw3 c2 f2 hb3 hF3 hrb3 hcl
  go_wp2_with fail
  refine HCL.out.mono ?_
  rintro e w4 ⟨A4, c4, rfl, ho4, hB4'⟩
  have hb4 := HB3.out.below hB4' HB3.out.lt
  have hB4 := hB3.trans (hB4'.mono (Nat.le_of_lt HB3.out.lt))
  have hF4 := rangeAt_below HF3.out hB4' hbw3
  have hrb4 := HRB3.out.below hB4' HRB3.out.lt
  have c4' : w4.cell? ⟨g, 0, none⟩ = some (.slice (some ⟨b, 3 + ln, none⟩) (m - 3 - ln) (c - 3 - ln)) := hb4.cell_of (i := 0) rfl
  have f4 := hb4.frozen 0
  have HF4 := Lib.hid hF4
  have HB4 := Lib.hid hb4
  have HRB4 := Lib.hid hrb4
  have HO4 := Lib.hid ho4
  have hn5 := bnumber_any g b (3 + ln) (m - 3 - ln) (c - 3 - ln) 4 (xs.drop (3 + ln)) (by omega) (by omega) (by omega) (by omega) (by rw [List.length_drop, hl]; omega) hbg w4 c4' f4 (by
    have h1 := rangeAt_tail hF4 (3 + ln)
    rw [Nat.zero_add] at h1
    exact h1)
  have HN5 := Lib.hid hn5
  clear hb4 hF4 hrb4 ho4 hn5
  go_wp2_with fail
  refine HN5.out.mono ?_
  rintro e w5 ⟨rfl, hw5⟩
  obtain ⟨o5, ho5⟩ : ∃ o5, o5 = (if c - 3 - ln = 4 then 3 + ln else 3 + ln + 4) := ⟨_, rfl⟩
  rw [← ho5] at hw5
  have hb5 : Blk w5 g 71 #[.slice (some ⟨b, o5, none⟩) (m - 3 - ln - 4) (c - 3 - ln - 4), .int .i64 num, .int .i64 N] := by rw [hw5]; exact HB4.out.set_ 0 _
  have hF5 : w5.rangeAt b 0 (xs.map u8v) := by rw [hw5]; exact rangeAt_set HF4.out _ hbg _
  have hB5 : Below g W w5 := by rw [hw5]; exact hB4.setCell (p := ⟨g, 0, none⟩) (Nat.le_refl _) _
  have hrb5 : Blk w5 w.heap.size 27 rec0 := by rw [hw5]; exact HRB4.out.far (p := ⟨g, 0, none⟩) (Ne.symm (Nat.ne_of_lt hgw)) _
  have ho5' : Own w5 w3.heap.size 5 1 A4 ln c4 (((xs.drop 3).take ln).map u8v) := by
    rw [hw5]
    exact HO4.out.kept (grownBy_setCell _ _ _) (by
      cases hA : A4 with
      | none => exact .inl rfl
      | some a' => exact .inr (fun e => by have := (HO4.out.block _ (by rw [hA]; exact e)).1; have := hB3.size; simp only [] at *; omega))
  have hL5 : w5.rangeAt b o5 ((xs.drop (7 + ln)).map u8v) := by
    by_cases h4 : c - 3 - ln = 4
    · have : xs.drop (7 + ln) = [] := List.drop_eq_nil_of_le (by omega)
      rw [this]
      intro j v hv; simp at hv
    · rw [if_neg h4] at ho5
      have h1 := rangeAt_tail hF5 (7 + ln)
      rw [Nat.zero_add] at h1
      rw [ho5, show 3 + ln + 4 = 7 + ln by omega]
      exact h1
  have hbw5 : b < w5.heap.size := by have := hB5.size; omega
  have hsum := sum_n (some ⟨b, 0, none⟩) (3 + ln) c (xs.take (3 + ln)) w5 (by
    have h1 := reads_of_range (n := 3 + ln) hF5 (by omega) hbw5
    have h2 : (xs.take (3 + ln)).length = 3 + ln := by rw [List.length_take]; omega
    unfold RB
    rw [h2]
    exact h1) (by rw [List.length_take]; omega) (by simp only [maxLen]; omega)
  have HSUM := Lib.hid hsum
  have HF5 := Lib.hid hF5
  have HB5 := Lib.hid hb5
  have HRB5 := Lib.hid hrb5
  have HO5 := Lib.hid ho5'
  have HL5 := Lib.hid hL5
  obtain ⟨sm, hsm⟩ : ∃ sm, sm = getNat ((xs.drop (3 + ln)).take 4) := ⟨_, rfl⟩
  obtain ⟨ck, hck⟩ : ∃ ck, ck = upd 0 (xs.take (3 + ln)) := ⟨_, rfl⟩
  rw [← hsm]
  rw [← hck] at HSUM
  have hckl := ck.toNat_lt
  have hcw : wrap64 (ck.toNat : Int) = (ck.toNat : Int) := IntWalk.wrap64_in _ (by omega)
  have HSM := Lib.hid hsm
  have HCK := Lib.hid hck
  have hi3 : (3 : Int) + (ln : Int) ≤ (c : Int) := by omega
  have hi4 : (0 : Int) ≤ 3 + (ln : Int) := by omega
  clear hw5 c4' f4 hb5 hF5 hrb5 ho5' hL5 hsum hsm hck ho5
  go_wp2_with fail
  refine HSUM.out.mono ?_
  rintro e w6 ⟨rfl, hB6⟩
  have hN6 : Below g W w6 := hB5.trans (hB6.mono (Nat.le_of_lt HB5.out.lt))
  have hb6 := HB5.out.below hB6 HB5.out.lt
  have hrb6 := HRB5.out.below hB6 HRB5.out.lt
  have hL6 := rangeAt_below HL5.out hB6 hbw5
  have ho6 := HO5.out.below hB6
  have HL6 := Lib.hid hL6
  have HO6 := Lib.hid ho6
  have HB6 := Lib.hid hb6
  have HRB6 := Lib.hid hrb6
  have q0 : w6.cell? ⟨g, 0, none⟩ = some (.slice (some ⟨b, o5, none⟩) (m - 3 - ln - 4) (c - 3 - ln - 4)) := hb6.cell_of (i := 0) rfl
  have q1 : w6.cell? ⟨g, 1, none⟩ = some (.int .i64 num) := hb6.cell_of (i := 1) rfl
  have q2 : w6.cell? ⟨g, 2, none⟩ = some (.int .i64 N) := hb6.cell_of (i := 2) rfl
  have hBw : Below g w w6 := (hB0.mono (Nat.le_of_lt hgw)).trans hN6
  have Q2 := Lib.hid q2
  clear hcw hi3 hi4 hL6 ho6 hb6 hrb6 q2
  by_cases hs : sm = ck.toNat
  · have hs1 : ((sm : Int) == (ck.toNat : Int)) = true := by simp [hs]
    have hok : sumOk xs ln := by unfold sumOk; rw [← HSM.out, ← HCK.out]; exact hs
    have HOK := Lib.hid hok
    clear hs hok
    go_wp2_with fail
    refine (demand_ok 9 w6).mono ?_
    rintro e w7 ⟨rfl, rfl⟩
    obtain ⟨kd, hkd⟩ : ∃ kd, kd = getNat (xs.take 1) := ⟨_, rfl⟩
    rw [← hkd]
    have HKD := Lib.hid hkd
    clear hkd
    by_cases hk : kd = 0
    · have hfo : ¬ formOk xs ln := by
        rintro ⟨h1, _⟩
        exact h1 (HKD.out.symm.trans hk)
      have HFO := Lib.hid hfo
      clear hfo
      subst hk
      go_wp2_with fail
      refine (demand_bad 3 w6).mono ?_
      rintro e w7 ⟨rfl, rfl⟩
      exact ⟨rfl, hBw, .inr (.inl ⟨HOK.out, HFO.out, rfl⟩)⟩
    · have hk1 : (0 : Int) < (kd : Int) := by omega
      have hk2 : decide (0 < kd) = true := decide_eq_true (by omega)
      have hk3 : decide ((0 : Int) < (kd : Int)) = true := decide_eq_true hk1
      have hcn := contains_any b o5 (m - 3 - ln - 4) (c - 3 - ln - 4) (xs.drop (7 + ln)) (by rw [List.length_drop, hl]; omega) (by omega) w6 HL6.out
      have HCN := Lib.hid hcn
      have HK := Lib.hid hk
      clear hcn hk
      go_wp2_with fail
      refine HCN.out.mono ?_
      rintro e w7 ⟨rfl, rfl⟩
      by_cases hall : (xs.drop (7 + ln)).all (· == 0) = true
      · have hfo : formOk xs ln := ⟨by rw [← HKD.out]; exact HK.out, hall⟩
        have HFO := Lib.hid hfo
        rw [hall]
        clear hfo hall
        go_wp2_with fail
        refine (demand_ok 3 w6).mono ?_
        rintro e w7 ⟨rfl, rfl⟩
        have hinfo : (Try.prog.info? 27).map (·.size) = some (#[.int .i64 (kd : Int), .int .i64 (num : Int), .slice A4 ln c4] : Array Value).size := rec0_info
        go_wp2_with (first
          | ((with_reducible show Go.wpList _ _ _ (Go.Oper.mk _ (Go.Op.store _ _ _) _ _ _ _ :: _) _ _); refine wpList_store_row rfl 27 _ _ rfl w.heap.size #[.int .i64 (kd : Int), .int .i64 (num : Int), .slice A4 ln c4] rfl rfl 27 rec0 HRB6.out.row hinfo rec0_size (by simp [Value.oneCell']) ?_))
        have hb8 := HRB6.out.setRow_ #[.int .i64 (kd : Int), .int .i64 (num : Int), .slice A4 ln c4]
        have hu : ∃ fs, Try.prog.underlying 27 = some (.struct fs) := ⟨_, Try.underlying27⟩
        obtain ⟨fs, hu⟩ := hu
        have hb8g := HB6.out.setRow_far (k := w.heap.size) (Nat.ne_of_lt hgw) #[.int .i64 (kd : Int), .int .i64 (num : Int), .slice A4 ln c4]
        refine bodyPost_ret (results_cell_row rfl _ _ w.heap.size 27 #[.int .i64 (kd : Int), .int .i64 (num : Int), .slice A4 ln c4] (0, 0) _ rfl hb8.row hu rfl hinfo) rfl ?_
        refine ⟨below_setRow hBw (Nat.le_of_lt hgw) _, .inr (.inr ⟨HOK.out, HFO.out, hb8g.cell_of (i := 2) rfl, A4, c4, by rw [HKD.out], ?_⟩)⟩
        have hgr : w6.grownBy (w6.setRow w.heap.size #[.int .i64 (kd : Int), .int .i64 (num : Int), .slice A4 ln c4]) (some w.heap.size) := by
          have h := Go.Proofs.Ytejoofeoffehmaa.below_setRow (Below.refl 0 w6) (Nat.zero_le w.heap.size) #[.int .i64 (kd : Int), .int .i64 (num : Int), .slice A4 ln c4]
          exact ⟨h.os, h.tape, h.output, h.size, fun k _ hne => setRow_other _ _ _ _ (fun e => hne (by rw [e]))⟩
        have hWw : w.heap.size < w3.heap.size := by have := hB3.size; have := HRB3.out.lt; omega
        have ho8 := HO6.out.kept hgr (by
          cases hA : A4 with
          | none => exact .inl rfl
          | some a' => exact .inr (fun e => by have := (HO6.out.block _ (by rw [hA]; exact e)).1; omega))
        exact ho8.mono_ (by omega)
      · have hall' : (xs.drop (7 + ln)).all (· == 0) = false := by simpa using hall
        have hfo : ¬ formOk xs ln := fun h => hall h.2
        have HFO := Lib.hid hfo
        rw [hall']
        clear hfo hall hall'
        go_wp2_with fail
        refine (demand_bad 3 w6).mono ?_
        rintro e w7 ⟨rfl, rfl⟩
        exact ⟨rfl, hBw, .inr (.inl ⟨HOK.out, HFO.out, rfl⟩)⟩
  · have hs1 : ((sm : Int) == (ck.toNat : Int)) = false := by simp; omega
    have hok : ¬ sumOk xs ln := by unfold sumOk; rw [← HSM.out, ← HCK.out]; exact hs
    have HOK := Lib.hid hok
    clear hs hok
    go_wp2_with fail
    refine (demand_bad 9 w6).mono ?_
    rintro e w7 ⟨rfl, rfl⟩
    exact ⟨rfl, hBw, .inl ⟨HOK.out, rfl⟩⟩
end Go.Proofs.Ytejoofeoffehmaa

/- Contract: the reference's Decode, whole. -/
import Derived.Test.YtejoofeoffehmaaDec8
namespace Go.Proofs.Ytejoofeoffehmaa
open Go.RowKit

theorem wrap_k (k ln : Nat) (h : ln ≤ 4096) (hk : k ≤ 1000 := by decide) : wrap64 ((k : Int) + (ln : Int)) = (k : Int) + (ln : Int) := IntWalk.wrap64_in _ (by omega)
theorem wrapi_k (k ln : Nat) (h : ln ≤ 4096) (hk : k ≤ 1000 := by decide) : IntKind.i64.wrap ((k : Int) + (ln : Int)) = (k : Int) + (ln : Int) := IntWalk.i64_in _ (by omega)
theorem wrap_ck (ck : UInt32) : wrap64 (ck.toNat : Int) = (ck.toNat : Int) := IntWalk.wrap64_in _ (by have := ck.toNat_lt; omega)
theorem wrapi_ck (ck : UInt32) : IntKind.i64.wrap (ck.toNat : Int) = (ck.toNat : Int) := IntWalk.i64_in _ (by have := ck.toNat_lt; omega)
theorem rangeAt_own {w : World} {base : Nat} {b n c : Nat} {xs : List UInt8} (ho : Own w base 5 1 (some ⟨b, 0, none⟩) n c (xs.map u8v)) (hn : 0 < n) : w.rangeAt b 0 (xs.map u8v) := by
  obtain ⟨_, h⟩ := ho.reads
  obtain ⟨b', o', h1, _, h2⟩ := h hn
  injection h1 with h1; injection h1 with h1 h3; subst h1 h3
  exact h2
theorem all_take_succ {xs : List UInt8} {k : Nat} (hk : k < xs.length) (h : (xs.take k).all (· == 0) = true) (h0 : xs[k] = 0) : (xs.take (k + 1)).all (· == 0) = true := by
  rw [List.take_succ_eq_append_getElem hk, List.all_append, h]
  simp [h0]
theorem all_not {xs : List UInt8} {k : Nat} (hk : k < xs.length) (h0 : xs[k] ≠ 0) : ¬ xs.all (· == 0) = true := by
  intro h
  rw [List.all_eq_true] at h
  have := h xs[k] (List.getElem_mem hk)
  simp at this
  exact h0 this
theorem dec_def (s : Sec) (rest : List Sec) (h : begErr (s :: rest) = 0) (xs : List UInt8) (hx : streamOf ((s :: rest).take (sizeOfRec (recLen s))) = xs) :
    dec (s :: rest) = (if ¬ sumOk xs (recLen s) then ⟨9, 0, 0, [], 0⟩ else if ¬ formOk xs (recLen s) then ⟨3, 0, 0, [], 0⟩
      else ⟨0, getNat (xs.take 1), secNum s, (xs.drop 3).take (recLen s), sizeOfRec (recLen s)⟩) := by
  subst hx
  conv => lhs; unfold dec
  rw [if_neg (by omega)]

theorem zeroRecE (w : World) : (zeroValue 27).run Try.prog w = .ok (.agg #[.int .i64 0, .int .i64 0, .slice none 0 0]) w := by kernel_rfl
theorem refok (T : Array Value) (ss : List Sec) (w w1 : World) (v0 v1 v2 x2 x1 : Value) (ht2 : T.getD 2 undef = .pointer (some ⟨w.heap.size, 0, none⟩)) (ht3 : T.getD 3 undef = x1) (ht4 : T.getD 4 undef = x2)
    (h0 : Blk w1 w.heap.size 27 #[v0, v1, v2]) (hR : DecPost ss w (.returned (.tuple #[.agg #[v0, v1, v2], x1, x2])) w1) :
    bodyPost Try.prog Try.f18 (DecPost ss w) .ret { tmps := T, defers := [] } w1 :=
  bodyPost_ret (refdoor T _ w1 _ _ _ _ _ ht2 ht3 ht4 h0) rfl hR

attribute [local irreducible] Blk rec0 secCells sec0
set_option maxRecDepth 100000 in
set_option maxHeartbeats 400000 in
theorem refdecode_cons (A : Option Addr) (c : Nat) (s : Sec) (rest : List Sec) (h63 : (s :: rest).length ≤ c) (h64 : c ≤ 9223372036854775807) (w : World) (hR : RS w w.heap.size A (s :: rest)) :
    Calls Try.prog 18 #[.slice A (s :: rest).length c] w (DecPost (s :: rest) w) := by
  obtain ⟨W, hW⟩ : ∃ W, w.alloc (.cells rec0 27) = W := ⟨_, rfl⟩
  have hB0 : Below w.heap.size w W := by rw [← hW]; exact (Below.refl _ w).alloc (Nat.le_refl _) _
  have hblk : Blk W w.heap.size 27 rec0 := by rw [← hW]; exact Blk.new _ _ _
  have hWs : W.heap.size = w.heap.size + 1 := by rw [← hW]; simp
  have hL1 : 1 ≤ (s :: rest).length := by simp
  have hRW : RS W W.heap.size A (s :: rest) := hR.later hB0
  obtain ⟨b, o, hA, hbl, hc⟩ := hRW.at_ (k := 0) (by simp)
  subst hA
  rw [Nat.zero_mul, Nat.add_zero] at hc
  have HC := Lib.hid (show W.rangeAt b o (secCells s) from hc)
  have HRS := Lib.hid hRW
  have HNUM := Lib.hid (refnumber_any s W)
  have HBLK := Lib.hid hblk
  clear hc hR hRW hblk
  generalize hLe : (s :: rest).length = L at h63 hL1 ⊢
  have HL := Lib.hid hLe
  clear hLe
  have hp : (0 : Int) < (L : Int) := by omega
  have hL0 : ¬ (L : Int) = 0 := by omega
  have hpd : decide (0 < L) = true := decide_eq_true hL1
  have hz := zeroRec
  go_enter Try.func18, Try.ntmps18
  go_wp2_with (first
    | ((with_reducible show Go.wpList _ _ _ (Go.Oper.mk _ (Go.Op.load _ _) _ _ _ _ :: _) _ _); refine wpList_load_mid rfl 47 (.tmp 17) rfl b o rfl (secCells s) _ HC.out under_sec rfl (info_sec _) ?_))
  clear hW
  refine HNUM.out.mono ?_
  rintro e w1 ⟨rfl, hB1⟩
  have hbk1 := HBLK.out.below hB1 HBLK.out.lt
  have HB1 := Lib.hid hbk1
  have hBw1 : Below w.heap.size w w1 := hB0.trans (hB1.mono hB0.size)
  clear hbk1
  by_cases hn : secNum s = 0
  · rw [hn]
    go_wp2_with (first
      | ((with_reducible show Go.wpList _ _ _ (Go.Oper.mk _ (Go.Op.store _ _ _) _ _ _ _ :: _) _ _); refine wpList_store_row rfl 27 _ _ rfl w.heap.size rec0 rfl rfl 27 rec0 HB1.out.row rec0_info rfl rec0_all ?_))
    exact refend _ 7 _ w _ rfl rfl rfl (HB1.out.setRow_ _) (below_setRow hBw1 (Nat.le_refl _) _) (by rw [dec_beg] <;> simp [begErr, hn])
  · obtain ⟨num, hnum⟩ : ∃ num, num = secNum s := ⟨_, rfl⟩
    rw [← hnum]
    have hn0 : ¬ (num : Int) = 0 := by omega
    have HNM := Lib.hid hnum
    have HN0 := Lib.hid hn
    clear hnum hn
    have hr5 : RB w1 W.heap.size (some ⟨b, o + 5, none⟩) ((s.toList.drop 5).take 2) := by
      have h0 := rangeAt_below HC.out hB1 hbl
      rw [secCells] at h0
      have h1 := reads_of_range (n := 2) (rangeAt_tail h0 5) (by rw [List.length_drop, Vector.length_toList]; omega) hbl
      unfold RB
      have h2 : ((s.toList.drop 5).take 2).length = 2 := by simp
      rw [h2]
      exact h1
    have hln5 : getNat ((s.toList.drop 5).take 2) = recLen s := by
      have : (s.toList.drop 5).take 2 = [s[5], s[6]] := by
        apply List.ext_getElem
        · simp
        · intro i h1 h2
          have hi : i < 2 := by simpa using h2
          match i, hi with
          | 0, _ => simp
          | 1, _ => simp
      rw [this]; simp only [getNat, recLen]; omega
    have hget := get_n (some ⟨b, o + 5, none⟩) 2 3 ((s.toList.drop 5).take 2) (by simp) (by decide) w1 (by exact Reads.more hr5 hB1.size)
    rw [hln5] at hget
    have HGET := Lib.hid hget
    clear hget hr5 hln5
    obtain ⟨ln, hln⟩ : ∃ ln, ln = recLen s := ⟨_, rfl⟩
    rw [← hln] at HGET
    have HLN := Lib.hid hln
    have hln6 := recLen_lt s
    rw [← hln] at hln6
    clear hln
    go_wp2_with fail
    refine HGET.out.mono ?_
    rintro e w2 ⟨rfl, rfl⟩
    by_cases h5 : 4096 < ln
    · have hd : (4096 : Int) < (ln : Int) := by omega
      have he : begErr (s :: rest) = 5 := by
        have := HLN.out; have := HN0.out
        simp only [begErr]
        rw [if_neg (by assumption), if_pos (by omega)]
      have HE := Lib.hid he
      clear he
      go_wp2_with (first
        | ((with_reducible show Go.wpList _ _ _ (Go.Oper.mk _ (Go.Op.store _ _ _) _ _ _ _ :: _) _ _); refine wpList_store_row rfl 27 _ _ rfl w.heap.size rec0 rfl rfl 27 rec0 HB1.out.row rec0_info rfl rec0_all ?_))
      exact refend _ 5 _ w _ rfl rfl rfl (HB1.out.setRow_ _) (below_setRow hBw1 (Nat.le_refl _) _) (by rw [dec_beg] <;> simp [HE.out])
    · have hd : ¬ (4096 : Int) < (ln : Int) := by omega
      go_wp2_with fail
      refine (refsize_in ln (by omega) _).mono ?_
      rintro e w2 ⟨rfl, rfl⟩
      obtain ⟨N, hN⟩ : ∃ N, N = sizeOfRec ln := ⟨_, rfl⟩
      rw [← hN]
      have hN2 : 4 * N ≤ ln + 10 ∧ ln + 7 ≤ 4 * N := by rw [hN]; unfold sizeOfRec; omega
      have HNN := Lib.hid hN
      clear hN
      by_cases h10 : L < N
      · have hd3 : (L : Int) < (N : Int) := by omega
        have he : begErr (s :: rest) = 10 := by
          have := HLN.out; have := HN0.out; have := HNN.out; have := HL.out
          simp only [begErr]
          rw [if_neg (by assumption), if_neg (by omega), if_pos (by rw [← HLN.out, ← HNN.out]; omega)]
        have HE := Lib.hid he
        clear he
        go_wp2_with (first
          | ((with_reducible show Go.wpList _ _ _ (Go.Oper.mk _ (Go.Op.store _ _ _) _ _ _ _ :: _) _ _); refine wpList_store_row rfl 27 _ _ rfl w.heap.size rec0 rfl rfl 27 rec0 HB1.out.row rec0_info rfl rec0_all ?_))
        exact refend _ 10 _ w _ rfl rfl rfl (HB1.out.setRow_ _) (below_setRow hBw1 (Nat.le_refl _) _) (by rw [dec_beg] <;> simp [HE.out])
      · have hd3 : ¬ (L : Int) < (N : Int) := by omega
        go_wp2_with fail
        go_loopw [8, 9] (fun v i wr => ∃ (k : Nat) (A' : Option Addr) (c' : Nat), k ≤ N ∧ i = .int .i64 k ∧ v = .slice A' (4 * k) c' ∧
            Own wr W.heap.size 5 1 A' (4 * k) c' ((streamOf ((s :: rest).take k)).map u8v) ∧ ((s :: rest).take k).all (fun t => secNum t == num) = true ∧ Below W.heap.size W wr)
          (fun _ i _ => N - (intOf i).toNat)
        case atStart => exact ⟨0, none, 0, Nat.zero_le _, rfl, rfl, Own.nil_ _ _ _ _, rfl, hB1⟩
        case round =>
          obtain ⟨k, A', c', hk, rfl, rfl, ho, hall, hB⟩ := hrel
          have HO := Lib.hid ho
          have HALL := Lib.hid hall
          have hsz := hB.size
          clear ho hall
          by_cases hlt : k < N
          · have hkL : k < (s :: rest).length := by have := HL.out; omega
            obtain ⟨b', o', hA, hbl', hck⟩ := (HRS.out.below hB).at_ hkL
            injection hA with hA; injection hA with hA1 hA2
            subst hA1 hA2
            have hnk := refnumber_any (s :: rest)[k]
            have HS := Lib.hid (List.take_succ_eq_append_getElem hkL)
            generalize (s :: rest)[k] = t at hck hnk HS
            have HCK := Lib.hid hck
            have HNK := Lib.hid hnk
            have hki : (k : Int) < (N : Int) := by omega
            have hkL' : (k : Int) < (L : Int) := by omega
            have hk0 : (0 : Int) ≤ (k : Int) := by omega
            clear hck hnk
            go_wp2_with (first
              | ((with_reducible show Go.wpList _ _ _ (Go.Oper.mk _ (Go.Op.load _ _) _ _ _ _ :: _) _ _); refine wpList_load_mid rfl 47 (.tmp 44) rfl b (o + k * 8) rfl (secCells t) _ HCK.out under_sec rfl (info_sec _) ?_))
            refine (HNK.out _).mono ?_
            rintro e w3 ⟨rfl, hB3⟩
            have hBW3 := hB.trans (hB3.mono hsz)
            by_cases he : secNum t = num
            · have HEE := Lib.hid he
              rw [he]
              clear he
              have hr4 : Reads w3 W.heap.size 1 (some ⟨b, o + k * 8 + 4, none⟩) 4 ((part4 t).map u8v) := by
                have h0 := rangeAt_below HCK.out hB3 (Nat.lt_of_lt_of_le hbl' hsz)
                rw [secCells] at h0
                have h1 := rangeAt_tail h0 4
                refine ⟨by simp [part4_length], fun _ => ⟨b, o + k * 8 + 4, rfl, hbl', ?_⟩⟩
                exact h1
              have HR4 := Lib.hid hr4
              clear hr4
              go_wp2_with (first
                | ((with_reducible show Go.wpList _ _ _ (Go.Oper.mk _ (Go.Op.call { callee := Go.Callee.builtin Go.Builtin.append, args := _, argTypes := _ }) _ _ _ _ :: _) _ _); refine wpList_app _ rfl (.tmp 50) (.tmp 54) 25 rfl 5 1 1 elemB W.heap.size A' (4 * k) c' _ rfl (HO.out.below hB3) W.heap.size (some ⟨b, o + k * 8 + 4, none⟩) 4 4 ((part4 t).map u8v) rfl HR4.out (u8v_one _) (4 * (k + 1)) (by omega) ((streamOf ((s :: rest).take (k + 1))).map u8v) (by rw [HS.out, streamOf_snoc, List.map_append]) (by simp only [maxLen]; omega) (by omega) hBW3.size ?_; intro A7 c7 w7 ho7 hg7 hl7; have hB7 : Below W.heap.size W w7 := below_app hBW3 hBW3.size (fun j hj => (HO.out.block j hj).1) hg7))
              go_roundw
              case rel =>
                refine ⟨k + 1, A7, c7, by omega, by go_num, rfl, ho7, ?_, hB7⟩
                rw [HS.out, List.all_append, HALL.out]
                simp [HEE.out]
              case measure => simp [intOf]; omega
            · have hd4 : ¬ (secNum t : Int) = (num : Int) := by omega
              have hbe : begErr (s :: rest) = 10 := by
                have h1 := HLN.out; have h2 := HN0.out; have h3 := HNN.out; have h4 := HL.out; have h5' := HNM.out
                simp only [begErr]
                rw [if_neg (by assumption), if_neg (by omega), if_neg (by rw [← HLN.out, ← HNN.out]; omega), if_neg]
                intro hall
                rw [List.all_eq_true] at hall
                have hmem : t ∈ (s :: rest).take (sizeOfRec (recLen s)) := by
                  rw [← h1, ← h3]
                  have hm : t ∈ (s :: rest).take (k + 1) := by rw [HS.out]; simp
                  exact (List.take_sublist_take_left (by omega)).subset hm
                have := hall t hmem
                simp at this
                rw [← h5'] at this
                exact he this
              have HBE := Lib.hid hbe
              have hbk3 := HBLK.out.below hBW3 HBLK.out.lt
              have HBK3 := Lib.hid hbk3
              clear he hbe hbk3
              go_wp2_with (first
                | ((with_reducible show Go.wpList _ _ _ (Go.Oper.mk _ (Go.Op.store _ _ _) _ _ _ _ :: _) _ _); refine wpList_store_row rfl 27 _ _ rfl w.heap.size rec0 rfl rfl 27 rec0 HBK3.out.row rec0_info rfl rec0_all ?_))
              exact refend _ 10 _ w _ rfl rfl rfl (HBK3.out.setRow_ _) (below_setRow (hB0.trans (hBW3.mono hB0.size)) (Nat.le_refl _) _) (by rw [dec_beg] <;> simp [HBE.out])
          · obtain rfl : k = N := by omega
            obtain ⟨wE, rfl⟩ : ∃ wE, wE = wr := ⟨_, rfl⟩
            have hbe : begErr (s :: rest) = 0 := by
              have h1 := HLN.out; have h2 := HN0.out; have h3 := HNN.out; have h4 := HL.out; have h5' := HNM.out; have h6 := HALL.out
              simp only [begErr]
              rw [if_neg (by assumption), if_neg (by omega), if_neg (by rw [← HLN.out, ← HNN.out]; omega), if_pos]
              rw [← h1, ← h3, ← h5']
              exact h6
            have hdd := dec_def s rest hbe _ rfl
            rw [← HLN.out, ← HNN.out, ← HNM.out] at hdd
            have hxl : (streamOf ((s :: rest).take k)).length = 4 * k := by rw [streamOf_length, List.length_take]; have := HL.out; omega
            have hO := HO.out
            generalize streamOf ((s :: rest).take k) = xs at hdd hxl hO
            obtain ⟨b8, rfl⟩ := hO.some_ (by omega)
            have hcap := hO.cap
            have hF := rangeAt_own hO (by omega)
            have hb8 := (hO.block b8 rfl)
            have hbkE := HBLK.out.below hB HBLK.out.lt
            have HBKE := Lib.hid hbkE
            have HD := Lib.hid hdd
            have HF := Lib.hid hF
            have HXL := Lib.hid hxl
            have hBwE := hB0.trans (hB.mono hB0.size)
            have hc63 : c' ≤ 9223372036854775807 := by
              rcases hO.2 with ⟨h1, _⟩ | ⟨g, cap, cur, h1, _, _, _, h2, _⟩
              · cases h1
              · injection h1 with _ _ h3; subst h3; simp only [maxLen] at h2; omega
            clear hdd hbe hF hO hbkE hxl
            have hk0 : k ≤ 2000 := by omega
            have hr1 : ∀ w', Below wE.heap.size wE w' → w'.rangeAt b8 0 (xs.map u8v) := fun w' h => rangeAt_below HF.out h hb8.2
            have hgetf : ∀ w', Below wE.heap.size wE w' → Calls Try.prog 33 #[.slice (some ⟨b8, 3 + ln, none⟩) 4 (c' - (3 + ln))] w' fun e w'' => e = .returned (.int .i64 (getNat ((xs.drop (3 + ln)).take 4) : Nat)) ∧ w' = w'' := fun w' h => get_n _ 4 _ _ (by rw [List.length_take, List.length_drop, HXL.out]; omega) (by decide) w' (by
              have h1 := rangeAt_tail (hr1 w' h) (3 + ln)
              rw [Nat.zero_add] at h1
              have h2 := reads_of_range (n := 4) (B := w'.heap.size) h1 (by rw [List.length_drop, HXL.out]; omega) (Nat.lt_of_lt_of_le hb8.2 h.size)
              have h3 : ((xs.drop (3 + ln)).take 4).length = 4 := by rw [List.length_take, List.length_drop, HXL.out]; omega
              unfold RB; rw [h3]; exact h2)
            have hsumf : ∀ w', Below wE.heap.size wE w' → Calls Try.prog 28 #[.slice (some ⟨b8, 0, none⟩) (3 + ln) c'] w' fun e w'' => e = .returned (.int .u32 (upd 0 (xs.take (3 + ln))).toNat) ∧ Below w'.heap.size w' w'' := fun w' h => refsum_n _ (3 + ln) _ _ w' (by
              have h2 := reads_of_range (n := 3 + ln) (B := w'.heap.size) (hr1 w' h) (by rw [HXL.out]; omega) (Nat.lt_of_lt_of_le hb8.2 h.size)
              have h3 : (xs.take (3 + ln)).length = 3 + ln := by rw [List.length_take, HXL.out]; omega
              unfold RB; rw [h3]; exact h2) (by rw [List.length_take, HXL.out]; omega) (by simp only [maxLen]; omega)
            obtain ⟨sm, hsm⟩ : ∃ sm, sm = getNat ((xs.drop (3 + ln)).take 4) := ⟨_, rfl⟩
            obtain ⟨ck, hck⟩ : ∃ ck, ck = upd 0 (xs.take (3 + ln)) := ⟨_, rfl⟩
            rw [← hsm] at hgetf
            rw [← hck] at hsumf
            have HG := Lib.hid hgetf
            have HS := Lib.hid hsumf
            have HSM := Lib.hid hsm
            have HCK := Lib.hid hck
            have HR1 := Lib.hid hr1
            have hckl := ck.toNat_lt
            have i0 : (0 : Int) ≤ 3 + (ln : Int) := by omega
            have i1 : (3 : Int) + (ln : Int) ≤ 7 + (ln : Int) := by omega
            have i2 : (7 : Int) + (ln : Int) ≤ (c' : Int) := by omega
            have i3 : (3 : Int) + (ln : Int) ≤ (c' : Int) := by omega
            have i4 : (0 : Int) ≤ 7 + (ln : Int) := by omega
            have n3 : (3 + (ln : Int)).toNat = 3 + ln := by omega
            have n7 : (7 + (ln : Int)).toNat = 7 + ln := by omega
            have n4 : 7 + ln - (3 + ln) = 4 := by omega
            have hcn : ¬ c' = 3 + ln := by omega
            have hl4 : ln ≤ 4096 := by omega
            have hbr := (Below.refl wE.heap.size wE).drew
            have hwd : wE.drew.heap.size = wE.heap.size := rfl
            have hcw : wrap64 (ck.toNat : Int) = (ck.toNat : Int) := wrap_ck ck
            have w3 : wrap64 (3 + (ln : Int)) = 3 + (ln : Int) := wrap_k 3 ln hl4
            have w7 : wrap64 (7 + (ln : Int)) = 7 + (ln : Int) := wrap_k 7 ln hl4
            have v3 : IntKind.i64.wrap (3 + (ln : Int)) = 3 + (ln : Int) := wrapi_k 3 ln hl4
            have v7 : IntKind.i64.wrap (7 + (ln : Int)) = 7 + (ln : Int) := wrapi_k 7 ln hl4
            clear hsm hck hgetf hsumf hr1 hl4 hckl
            go_wp2_with fail
            go_region_held3 (fun w' => Below wE.heap.size wE w')
              (first | assumption | exact hbr)
              (first
                | (go_at_call 33; refine (HG.out _ (by first | assumption | exact hbr)).mono ?_; rintro e w5 ⟨rfl, rfl⟩)
                | (go_at_call 28; refine (HS.out _ (by first | assumption | exact hbr)).mono ?_; rintro e w6 ⟨rfl, hB6⟩; have hN6 : Below wE.heap.size wE w6 := below_next (by first | assumption | exact hbr) hB6))
            clear hcw w3 v3 v7 hbr hcn n4 i3
            have W7 := Lib.hid w7
            clear w7
            have hBw6 : Below w.heap.size w w6 := hBwE.trans (hN6.mono hBwE.size)
            have hbk6 := HBKE.out.below hN6 HBKE.out.lt
            have HBK6 := Lib.hid hbk6
            have hF6 := HR1.out w6 hN6
            have HF6 := Lib.hid hF6
            have hbl6 : b8 < w6.heap.size := Nat.lt_of_lt_of_le hb8.2 hN6.size
            clear hbk6 hF6 hB6 n3 n7
            by_cases hs : sm = ck.toNat
            · have hs1 : (sm : Int) = (ck.toNat : Int) := by omega
              have hok : sumOk xs ln := by unfold sumOk; rw [← HSM.out, ← HCK.out]; exact hs
              have HOK := Lib.hid hok
              rw [wrapi_ck, show ((sm : Int) != (ck.toNat : Int)) = false by rw [← hs]; simp]
              clear hs hok hs1
              go_wp2_with fail
              rw [show (7 : Int) + (ln : Int) = ((7 + ln : Nat) : Int) by omega]
              go_loop [10] (fun i => ∃ q : Nat, 7 + ln + q ≤ 4 * k ∧ i = .int .i64 ((7 + ln + q : Nat) : Int) ∧ ((xs.drop (7 + ln)).take q).all (· == 0) = true) (fun i => 4 * k - (intOf i).toNat)
              case atStart => exact ⟨0, by omega, rfl, rfl⟩
              case round =>
                obtain ⟨q, hq, rfl, hall⟩ := hrel
                have HALQ := Lib.hid hall
                clear hall
                by_cases hlq : 7 + ln + q < 4 * k
                · have hqx : q < (xs.drop (7 + ln)).length := by rw [List.length_drop, HXL.out]; omega
                  have hcell : w6.cell? ⟨b8, 7 + ln + q, none⟩ = some (.int .u8 ((xs.drop (7 + ln))[q].toNat : Int)) := by
                    have h1 := rangeAt_tail HF6.out (7 + ln) q (u8v (xs.drop (7 + ln))[q]) (by rw [List.getElem?_map, List.getElem?_eq_getElem hqx]; rfl)
                    rw [Nat.zero_add] at h1
                    exact h1
                  obtain ⟨J, hJ⟩ : ∃ J, J = 7 + ln + q := ⟨_, rfl⟩
                  rw [← hJ] at hcell ⊢
                  have h0J : (0 : Int) ≤ (J : Int) := by omega
                  have hJl : (J : Int) < 4 * (k : Int) := by omega
                  have HJ := Lib.hid hJ
                  by_cases hx : (xs.drop (7 + ln))[q] = 0
                  · rw [hx] at hcell
                    have HALL2 := Lib.hid (all_take_succ hqx HALQ.out hx)
                    clear hx hJ
                    go_wp2_with fail
                    go_round
                    case rel => exact ⟨q + 1, by have := HJ.out; omega, by rw [HJ.out]; go_num, HALL2.out⟩
                    case measure => simp [intOf]; omega
                  · have hx0 : ¬ ((xs.drop (7 + ln))[q].toNat : Int) = 0 := by
                      intro h
                      exact hx (UInt8.toNat_inj.1 (by simpa using h))
                    have hfo : ¬ formOk xs ln := fun h => all_not hqx hx h.2
                    have hdd : dec (s :: rest) = ⟨3, 0, 0, [], 0⟩ := by rw [HD.out, if_neg (not_not_intro HOK.out), if_pos hfo]
                    have HDD := Lib.hid hdd
                    clear hx hJ hfo hdd
                    generalize ((xs.drop (7 + ln))[q].toNat) = xq at hcell hx0
                    go_wp2_with (first
                      | ((with_reducible show Go.wpList _ _ _ (Go.Oper.mk _ (Go.Op.store _ _ _) _ _ _ _ :: _) _ _); refine wpList_store_row rfl 27 _ _ rfl w.heap.size rec0 rfl rfl 27 rec0 HBK6.out.row rec0_info rfl rec0_all ?_))
                    exact refend _ 3 _ w _ rfl rfl rfl (HBK6.out.setRow_ _) (below_setRow hBw6 (Nat.le_refl _) _) HDD.out
                · have hqe : 7 + ln + q = 4 * k := by omega
                  have hpad : (xs.drop (7 + ln)).all (· == 0) = true := by
                    have := HALQ.out
                    rwa [List.take_of_length_le (by rw [List.length_drop, HXL.out]; omega)] at this
                  rw [hqe]
                  have HPAD := Lib.hid hpad
                  clear hqe hpad HALQ hlq
                  have hx0l : 0 < xs.length := by rw [HXL.out]; omega
                  have hcell : w6.cell? ⟨b8, 0, none⟩ = some (.int .u8 (xs[0].toNat : Int)) := HF6.out 0 (u8v xs[0]) (by rw [List.getElem?_map, List.getElem?_eq_getElem hx0l]; rfl)
                  have hkd : getNat (xs.take 1) = xs[0].toNat := by
                    cases xs with
                    | nil => simp at hx0l
                    | cons x xs => simp [getNat]
                  have HKD := Lib.hid hkd
                  clear hkd
                  have hkl := xs[0].toNat_lt
                  generalize xs[0].toNat = kd at hcell HKD hkl
                  have hk4 : (0 : Int) < 4 * (k : Int) := by omega
                  by_cases hk0 : kd = 0
                  · subst hk0
                    have hfo : ¬ formOk xs ln := fun h => h.1 HKD.out
                    have hdd : dec (s :: rest) = ⟨3, 0, 0, [], 0⟩ := by rw [HD.out, if_neg (not_not_intro HOK.out), if_pos hfo]
                    have HDD := Lib.hid hdd
                    clear hfo hdd
                    go_wp2_with (first
                      | ((with_reducible show Go.wpList _ _ _ (Go.Oper.mk _ (Go.Op.store _ _ _) _ _ _ _ :: _) _ _); refine wpList_store_row rfl 27 _ _ rfl w.heap.size rec0 rfl rfl 27 rec0 HBK6.out.row rec0_info rfl rec0_all ?_))
                    exact refend _ 3 _ w _ rfl rfl rfl (HBK6.out.setRow_ _) (below_setRow hBw6 (Nat.le_refl _) _) HDD.out
                  · have hk01 : ¬ (kd : Int) = 0 := by omega
                    have hfo : formOk xs ln := ⟨by rw [HKD.out]; exact hk0, HPAD.out⟩
                    have hdd : dec (s :: rest) = ⟨0, kd, num, (xs.drop 3).take ln, k⟩ := by rw [HD.out, if_neg (not_not_intro HOK.out), if_neg (not_not_intro hfo), HKD.out]
                    have HDD := Lib.hid hdd
                    have hrd : Reads w6 w6.heap.size 1 (some ⟨b8, 3, none⟩) ln (((xs.drop 3).take ln).map u8v) := by
                      have h1 := rangeAt_tail HF6.out 3
                      rw [Nat.zero_add] at h1
                      exact reads_of_range h1 (by rw [List.length_drop, HXL.out]; omega) hbl6
                    have hpl : ((xs.drop 3).take ln).length = ln := by rw [List.length_take, List.length_drop, HXL.out]; omega
                    have HPL := Lib.hid hpl
                    have HRD := Lib.hid hrd
                    have g1 : (3 : Int) ≤ 3 + (ln : Int) := by omega
                    have g2 : (3 : Int) + (ln : Int) ≤ (c' : Int) := by omega
                    have g3 : ¬ c' = 3 := by omega
                    have n3 : (3 + (ln : Int)).toNat = 3 + ln := by omega
                    have n5 : 3 + ln - 3 = ln := by omega
                    have hq1 : IntKind.i64.wrap (kd : Int) = (kd : Int) := IntWalk.i64_in _ (by omega)
                    have g4 : (3 : Int) ≤ (c' : Int) := by omega
                    clear hfo hdd hrd hpl hk0 hz
                    have hz := zeroRecE
                    go_wp2_with (first
                      | ((with_reducible show Go.wpList _ _ _ (Go.Oper.mk _ (Go.Op.call { callee := Go.Callee.builtin Go.Builtin.append, args := _, argTypes := _ }) _ _ _ _ :: _) _ _); go_loud (refine wpList_app _ rfl (.tmp 90) (.tmp 94) 25 rfl 5 1 1 elemB w6.heap.size none 0 0 [] rfl (Own.nil_ _ _ _ _) w6.heap.size (some ⟨b8, 3, none⟩) ln (c' - 3) (((xs.drop 3).take ln).map u8v) rfl HRD.out (u8v_one _) ln (by omega) (((xs.drop 3).take ln).map u8v) (by simp) (by simp only [maxLen]; omega) (by omega) (Nat.le_refl _) ?_; intro A7 c7 w7 ho7 hg7 hl7; have hB7 : Below w6.heap.size w6 w7 := below_app (Below.refl _ _) (Nat.le_refl _) (fun j hj => by cases hj) hg7; have hbk7 := HBK6.out.below hB7 HBK6.out.lt; have HBK7 := Lib.hid hbk7; have hcell7 : w7.cell? ⟨b8, 0, none⟩ = some (.int .u8 (kd : Int)) := (hB7.cell (p := ⟨b8, 0, none⟩) hbl6).trans hcell; have HO7 := Lib.hid ho7; clear hbk7 ho7 hl7 hg7))
                      | ((with_reducible show Go.wpList _ _ _ (Go.Oper.mk _ (Go.Op.store _ _ _) _ _ _ _ :: _) _ _); go_loud (refine wpList_store_row rfl 27 _ _ rfl w.heap.size #[.int .i64 (kd : Int), .int .i64 (num : Int), .slice A7 ln c7] rfl rfl 27 rec0 HBK7.out.row (by kernel_rfl) rec0_size (by simp [Value.oneCell']) ?_)))
                    have hBw7 : Below w.heap.size w w7 := hBw6.trans (hB7.mono hBw6.size)
                    have hgr : w7.grownBy (w7.setRow w.heap.size #[.int .i64 (kd : Int), .int .i64 (num : Int), .slice A7 ln c7]) (some w.heap.size) := by
                      have h := Go.Proofs.Ytejoofeoffehmaa.below_setRow (Below.refl 0 w7) (Nat.zero_le w.heap.size) #[.int .i64 (kd : Int), .int .i64 (num : Int), .slice A7 ln c7]
                      exact ⟨h.os, h.tape, h.output, h.size, fun k _ hne => setRow_other _ _ _ _ (fun e => hne (by rw [e]))⟩
                    have hP : DecPost (s :: rest) w (.returned (.tuple #[.agg #[.int .i64 (kd : Int), .int .i64 (num : Int), .slice A7 ln c7], .int .i64 (k : Int), .int .i64 0])) (w7.setRow w.heap.size #[.int .i64 (kd : Int), .int .i64 (num : Int), .slice A7 ln c7]) := by
                      refine ⟨A7, c7, by rw [HDD.out]; simp only [HPL.out]; rfl, ?_, below_setRow hBw7 (Nat.le_refl _) _⟩
                      rw [HDD.out]
                      simp only [HPL.out]
                      refine Own.mono_ (Own.kept HO7.out hgr ?_) hBw6.size
                      cases hA : A7 with
                      | none => exact .inl rfl
                      | some a' => exact .inr (fun e => by have := (HO7.out.block _ (by rw [hA]; exact e)).1; have := HBK6.out.lt; (try simp only [] at *); omega)
                    exact refok _ _ w _ _ _ _ _ _ rfl rfl rfl (HBK7.out.setRow_ _) hP
            · have hs1 : ¬ (sm : Int) = (ck.toNat : Int) := by omega
              have hok : ¬ sumOk xs ln := by unfold sumOk; rw [← HSM.out, ← HCK.out]; exact hs
              have hdd : dec (s :: rest) = ⟨9, 0, 0, [], 0⟩ := by rw [HD.out, if_pos hok]
              have HDD := Lib.hid hdd
              rw [wrapi_ck, show ((sm : Int) != (ck.toNat : Int)) = true by simp; omega]
              clear hs hok hdd hs1
              go_wp2_with (first
                | ((with_reducible show Go.wpList _ _ _ (Go.Oper.mk _ (Go.Op.store _ _ _) _ _ _ _ :: _) _ _); refine wpList_store_row rfl 27 _ _ rfl w.heap.size rec0 rfl rfl 27 rec0 HBK6.out.row rec0_info rfl rec0_all ?_))
              exact refend _ 9 _ w _ rfl rfl rfl (HBK6.out.setRow_ _) (below_setRow hBw6 (Nat.le_refl _) _) HDD.out

theorem refdecode_any (A : Option Addr) (n c : Nat) (ss : List Sec) (hn : ss.length = n) (hc : n ≤ c) (h64 : c ≤ 9223372036854775807) (w : World) (hR : RS w w.heap.size A ss) :
    Calls Try.prog 18 #[.slice A n c] w (DecPost ss w) := by
  subst hn
  cases ss with
  | nil => exact refdecode_nil A c w
  | cons s rest => exact refdecode_cons A c s rest hc h64 w hR
end Go.Proofs.Ytejoofeoffehmaa

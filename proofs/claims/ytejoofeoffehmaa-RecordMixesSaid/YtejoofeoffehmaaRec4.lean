/- Contract: the reference's Encode. -/
import Derived.Test.YtejoofeoffehmaaRec3
import Derived.Test.YtejoofeoffehmaaRs4
namespace Go.Proofs.Ytejoofeoffehmaa
open Go.RowKit

theorem pad_part (s : Nat) (rs : List UInt8) (z j : Nat) : mkSec (le s 4 ++ ((rs ++ List.replicate z 0).drop (4 * j)).take 4) = encSec s rs j := by
  rw [encSec, List.drop_append, List.take_append, List.drop_replicate, List.take_replicate, ← List.append_assoc, mkSec_pad]
def sliceLen : Value → Nat
  | .slice _ n _ => n
  | _ => 0
theorem zero_u8v : Value.int .u8 0 = u8v 0 := rfl

set_option maxHeartbeats 1000000 in
theorem refencode_range (k s : Int) (P : Option Addr) (n c : Nat) (h : k < 1 ∨ 255 < k ∨ s < 1 ∨ 4294967295 < s) (w : World) :
    Calls Try.prog 15 #[recV k s P n c] w fun e w' => e = .returned (.tuple #[.slice none 0 0, .int .i64 2]) ∧ Below w.heap.size w w' := by
  unfold recV
  by_cases h1 : k < 1
  · clear h
    go_enter Try.func15, Try.ntmps15
    go_wp2_with fail
    go_ret2
    exact ⟨rfl, (Below.refl _ w).alloc (Nat.le_refl _) _⟩
  · by_cases h2 : 255 < k
    · clear h
      go_enter Try.func15, Try.ntmps15
      go_wp2_with fail
      go_ret2
      exact ⟨rfl, (Below.refl _ w).alloc (Nat.le_refl _) _⟩
    · by_cases h3 : s < 1
      · clear h
        go_enter Try.func15, Try.ntmps15
        go_wp2_with fail
        go_ret2
        exact ⟨rfl, (Below.refl _ w).alloc (Nat.le_refl _) _⟩
      · have h4 : 4294967295 < s := by omega
        clear h
        go_enter Try.func15, Try.ntmps15
        go_wp2_with fail
        go_ret2
        exact ⟨rfl, (Below.refl _ w).alloc (Nat.le_refl _) _⟩

set_option maxHeartbeats 1000000 in
theorem refencode_long (k s : Int) (P : Option Addr) (n c : Nat) (h1 : ¬ k < 1) (h2 : ¬ 255 < k) (h3 : ¬ s < 1) (h4 : ¬ 4294967295 < s) (h5 : 4096 < n) (_h6 : n ≤ 9223372036854775807) (w : World) :
    Calls Try.prog 15 #[recV k s P n c] w fun e w' => e = .returned (.tuple #[.slice none 0 0, .int .i64 5]) ∧ Below w.heap.size w w' := by
  unfold recV
  go_enter Try.func15, Try.ntmps15
  go_wp2_with fail
  go_ret2
  exact ⟨rfl, (Below.refl _ w).alloc (Nat.le_refl _) _⟩

attribute [local irreducible] Blk secCells sec0
set_option maxRecDepth 100000 in
set_option maxHeartbeats 1000000 in
theorem refencode_ok (k s : Nat) (P : Option Addr) (c : Nat) (p : List UInt8) (hk1 : 1 ≤ k) (hk2 : k ≤ 255) (hs1 : 1 ≤ s) (hs2 : s ≤ 4294967295) (hp : p.length ≤ 4096) (w : World) (hR : RB w w.heap.size P p) :
    Calls Try.prog 15 #[recV k s P p.length c] w fun e w' => ∃ A c, e = .returned (.tuple #[.slice A (encSecs k s p).length c, .int .i64 0]) ∧ Own w' w.heap.size 47 8 A (encSecs k s p).length c (secsCells (encSecs k s p)) ∧ Below w.heap.size w w' := by
  have h1 : ¬ (k : Int) < 1 := by omega
  have h2 : ¬ (255 : Int) < k := by omega
  have h3 : ¬ (s : Int) < 1 := by omega
  have h4 : ¬ (4294967295 : Int) < s := by omega
  have h5 : ¬ 4096 < p.length := by omega
  obtain ⟨W, hW⟩ : ∃ W, w.alloc (.cells #[.int .i64 k, .int .i64 s, .slice P p.length c] 27) = W := ⟨_, rfl⟩
  have hB0 : Below w.heap.size w W := by rw [← hW]; exact (Below.refl _ w).alloc (Nat.le_refl _) _
  have hblk : Blk W w.heap.size 27 #[.int .i64 k, .int .i64 s, .slice P p.length c] := by rw [← hW]; exact Blk.new _ _ _
  have k0 := hblk.cell_of (i := 0) rfl
  have k1 := hblk.cell_of (i := 1) rfl
  have k2 := hblk.cell_of (i := 2) rfl
  have hlt' := hblk.lt
  have hlt := hlt'
  have HX := Lib.hid (hR.later hB0)
  clear hR hblk
  unfold recV
  go_enter Try.func15, Try.ntmps15
  go_wp2_with fail
  clear hW
  have hbr := Below.refl W.heap.size W
  have kk0 : ∀ w', Below W.heap.size W w' → w'.cell? ⟨w.heap.size, 0, none⟩ = some (.int .i64 k) := fun w' h => (h.cell (p := ⟨w.heap.size, 0, none⟩) hlt).trans k0
  have kk1 : ∀ w', Below W.heap.size W w' → w'.cell? ⟨w.heap.size, 1, none⟩ = some (.int .i64 s) := fun w' h => (h.cell (p := ⟨w.heap.size, 1, none⟩) hlt).trans k1
  have kk2 : ∀ w', Below W.heap.size W w' → w'.cell? ⟨w.heap.size, 2, none⟩ = some (.slice P p.length c) := fun w' h => (h.cell (p := ⟨w.heap.size, 2, none⟩) hlt).trans k2
  have KK0 := Lib.hid kk0
  have KK1 := Lib.hid kk1
  have KK2 := Lib.hid kk2
  clear kk0 kk1 kk2
  have HS1 := Lib.hid (show ([] ++ (le k 1).map u8v) ++ (le p.length 2).map u8v ++ p.map u8v = (recHead k p).map u8v by simp [recHead, le])
  have hsm : ((upd 0 (recHead k p)).toNat : Int) < 4294967296 := by have := (upd 0 (recHead k p)).toNat_lt; omega
  have hsw : wrap64 ((upd 0 (recHead k p)).toNat : Int) = ((upd 0 (recHead k p)).toNat : Int) := IntWalk.wrap64_in _ (by omega)
  go_wp2_with fail
  have hc1 := put_any W.heap.size none 0 0 [] k 1 (by omega) (by omega) (by omega) W (Nat.le_refl _) (Own.nil_ _ _ _ _)
  refine hc1.mono ?_
  rintro e w5 ⟨A5, c5, rfl, ho5, hB5⟩
  have k2' := KK2.out _ hB5
  clear k0 k1 hc1
  go_wp2_with fail
  have hc1 := put_any W.heap.size A5 (0 + 1) c5 _ p.length 2 (by omega) (by omega) (by omega) w5 hB5.size ho5
  refine hc1.mono ?_
  rintro e w6 ⟨A6, c6, rfl, ho6, hB6'⟩
  have hB6 := hB5.trans hB6'
  clear k2' hc1
  have k2'' := KK2.out _ hB6
  go_wp2_with (first
    | ((with_reducible show Go.wpList _ _ _ (Go.Oper.mk _ (Go.Op.call { callee := Go.Callee.builtin Go.Builtin.append, args := _, argTypes := _ }) _ _ _ _ :: _) _ _); refine wpList_app _ rfl (.tmp 40) (.tmp 42) 25 rfl 5 1 1 elemB W.heap.size A6 (0 + 1 + 2) c6 _ rfl ho6 _ P p.length c (p.map u8v) rfl (HX.out.later hB6) (u8v_one _) (recHead k p).length (by rw [recHead_length]; omega) ((recHead k p).map u8v) HS1.out (by rw [recHead_length]; simp only [maxLen]; omega) (by rw [recHead_length]; omega) hB6.size ?_; intro A7 c7 w7 ho7 hg7 hl7; have hB7 : Below W.heap.size W w7 := below_app hB6 hB6.size (fun j hj => (ho6.block j hj).1) hg7))
  refine (refsum_n A7 _ c7 (recHead k p) w7 ho7.reads rfl (by rw [recHead_length]; simp only [maxLen]; omega)).mono ?_
  rintro e w8 ⟨rfl, hB8'⟩
  have hB8 : Below W.heap.size W w8 := below_next hB7 hB8'
  go_wp2_with fail
  have hc1 := put_any W.heap.size A7 (recHead k p).length c7 _ (upd 0 (recHead k p)).toNat 4 (by omega) (by omega) (by rw [recHead_length]; omega) w8 hB8.size (ho7.below hB8')
  refine hc1.mono ?_
  rintro e w9 ⟨A9, c9, rfl, ho9, hB9'⟩
  have hB9 := hB8.trans hB9'
  clear hc1 k2''
  have hx9 : List.map u8v (recHead k p) ++ List.map u8v (le (upd 0 (recHead k p)).toNat 4) = (recStream k p).map u8v := by simp [recStream]
  have hL9 : (recHead k p).length + 4 = (recStream k p).length := by rw [recHead_length, recStream_length]
  rw [hx9, hL9] at ho9
  rw [hL9]
  clear hx9 hL9 hsm hsw
  generalize upd 0 (recHead k p) = ck
  generalize (recHead k p).length = lh
  have hrl := recStream_length k p
  have he : encSecs k s p = (List.range (((recStream k p).length + 3) / 4)).map (encSec s (recStream k p)) := rfl
  have HE := Lib.hid he
  clear he
  generalize recStream k p = rs at ho9 HE hrl ⊢
  generalize hL : rs.length = L at ho9 HE hrl ⊢
  have HL := Lib.hid hL
  have hL5 : L ≤ 4103 := by omega
  have hL7 : 7 ≤ L := by omega
  have HRL := Lib.hid hrl
  clear hL hrl
  go_wp2_with fail
  go_loopw [4] (fun v wr => ∃ (z : Nat) (A : Option Addr) (c : Nat), L + z ≤ 4 * ((L + 3) / 4) ∧ v = .slice A (L + z) c ∧ Own wr W.heap.size 5 1 A (L + z) c ((rs ++ List.replicate z 0).map u8v) ∧ Below W.heap.size W wr)
    (fun v _ => 4 * ((L + 3) / 4) - sliceLen v)
  case atStart => exact ⟨0, A9, c9, by omega, rfl, by simpa using ho9, hB9⟩
  case round =>
    obtain ⟨z, A10, c10, hz, rfl, ho10, hB10⟩ := hrel
    by_cases hlt : L + z < 4 * ((L + 3) / 4)
    · have hm : ¬ ((L : Int) + (z : Int)) % 4 = 0 := by omega
      have HO := Lib.hid ho10
      clear ho10
      go_wp2_with (first
        | ((with_reducible show Go.wpList _ _ _ (Go.Oper.mk _ (Go.Op.call { callee := Go.Callee.builtin Go.Builtin.append, args := _, argTypes := _ }) _ _ _ _ :: _) _ _); refine wpList_app _ rfl (.tmp 53) (.tmp 54) 25 rfl 5 1 1 elemB W.heap.size A10 (L + z) c10 _ rfl (HO.out.alloc _) (wr.heap.size + 1) (some ⟨wr.heap.size, 0, none⟩) 1 1 [u8v 0] rfl (reads_one _ _ _) (by simp [u8v, Value.oneCell']) (L + (z + 1)) (by omega) ((rs ++ List.replicate (z + 1) 0).map u8v) (by rw [List.replicate_succ']; simp) (by simp only [maxLen]; omega) (by omega) (by have := hB10.size; simp; omega) ?_; intro A11 c11 w11 ho11 hg11 hl11; have hB11 : Below W.heap.size W w11 := below_app (hB10.alloc hB10.size _) (by have := hB10.size; simp; omega) (fun j hj => (HO.out.block j hj).1) hg11))
      go_roundw
      case rel => exact ⟨z + 1, A11, c11, by omega, by rfl, ho11, hB11⟩
      case measure => simp [sliceLen]; omega
    · have hm : ((L : Int) + (z : Int)) % 4 = 0 := by omega
      obtain ⟨wE, rfl⟩ : ∃ wE, wE = wr := ⟨_, rfl⟩
      obtain ⟨N, hN⟩ : ∃ N, N = (L + 3) / 4 := ⟨_, rfl⟩
      have hzN : L + z = 4 * N := by omega
      rw [hzN] at ho10
      have hmN : (4 * (N : Int)) % 4 = 0 := by omega
      have hN1 : 1 ≤ N := by omega
      have hN5 : N ≤ 2000 := by omega
      rw [show Value.slice A10 (L + z) c10 = Value.slice A10 (4 * N) c10 by rw [hzN]]
      obtain ⟨b10, rfl⟩ := ho10.some_ (by omega)
      have hcap := ho10.cap
      have HRE := Lib.hid (RB.of_own4 ho10)
      have HN := Lib.hid hN
      have HZ := Lib.hid hzN
      have kk1 : ∀ w', Below wE.heap.size wE w' → w'.cell? ⟨w.heap.size, 1, none⟩ = some (.int .i64 s) := fun w' h => (h.cell (p := ⟨w.heap.size, 1, none⟩) (Nat.lt_of_lt_of_le hlt' hB10.size)).trans (KK1.out wE hB10)
      have hzt := zeroSec
      clear ho10 hz hm hzN hN hlt
      go_wp2_with fail
      go_loopw [5, 6] (fun v i wr => ∃ (j : Nat) (A : Option Addr) (c : Nat), j ≤ N ∧ i = .int .i64 ((4 * j : Nat) : Int) ∧ v = .slice A j c ∧ Own wr wE.heap.size 47 8 A j c (secsCells ((List.range j).map (encSec s rs))) ∧ Below wE.heap.size wE wr)
        (fun _ i _ => 4 * N - (intOf i).toNat)
      case atStart => exact ⟨0, none, 0, Nat.zero_le _, rfl, rfl, Own.nil_ _ _ _ _, Below.refl _ _⟩
      case round =>
        obtain ⟨j, A, c', hj, rfl, rfl, ho, hB⟩ := hrel
        have HO := Lib.hid ho
        clear ho
        by_cases hlt : j < N
        · have hp := HRE.out
          have hplen : (rs ++ List.replicate z 0).length = 4 * N := by rw [List.length_append, List.length_replicate, HL.out]; exact HZ.out
          have hpart : ∀ w', Below wE.heap.size wE w' → RB w' wE.heap.size (some ⟨b10, 4 * j, none⟩) (((rs ++ List.replicate z 0).drop (4 * j)).take 4) := by
            intro w' h
            have e1 := ((hp.below h).cut (k := 4 * j) (cap := 4 * N) (by omega) (by omega)).take_ (k := 4) (by rw [List.length_drop]; omega)
            have e2 : cutAt (some ⟨b10, 0, none⟩) (4 * N) (4 * j) 1 = some ⟨b10, 4 * j, none⟩ := by
              unfold cutAt; rw [if_neg (by omega)]; simp [Addr.add]; omega
            rw [e2] at e1
            exact e1
          have hchl : (((rs ++ List.replicate z 0).drop (4 * j)).take 4).length = 4 := by rw [List.length_take, List.length_drop]; omega
          have hpp := pad_part s rs z j
          generalize ((rs ++ List.replicate z 0).drop (4 * j)).take 4 = ch at hpart hchl hpp
          have HPP := Lib.hid hpp
          have hpart2 : ∀ w', Below wr.heap.size wr w' → Reads w' wE.heap.size 1 (some ⟨b10, 4 * j, none⟩) 4 (ch.map u8v) := by
            intro w' h
            have := hpart w' (hB.trans (h.mono hB.size))
            unfold RB at this
            rw [hchl] at this
            exact this
          have HPART := Lib.hid hpart2
          have hcne : ¬ c10 = 4 * j := by omega
          have hij : ((4 * j : Nat) : Int) = 4 * (j : Int) := by omega
          have hi0 : (0 : Int) ≤ 4 * (j : Int) := by omega
          have hi1 : 4 * (j : Int) + 4 ≤ 4 * (N : Int) := by omega
          have hi2 : 4 * (j : Int) < 4 * (N : Int) := by omega
          have hw1 : IntKind.i64.wrap (4 * (j : Int) + 4) = 4 * (j : Int) + 4 := IntWalk.i64_in _ (by omega)
          have hw2 : wrap64 (4 * (j : Int) + 4) = 4 * (j : Int) + 4 := IntWalk.wrap64_in _ (by omega)
          have hi3 : 4 * (j : Int) + 4 ≤ (c10 : Int) := by omega
          have hi4 : 4 * (j : Int) ≤ 4 * (j : Int) + 4 := by omega
          have hi5 : 0 ≤ 4 * (j : Int) + 4 := by omega
          have hi6 : 4 * (j : Int) ≤ (c10 : Int) := by omega
          have hi7 : (4 * (j : Int) + 4).toNat = 4 * j + 4 := by omega
          have hi8 : (4 * (j : Int)).toNat = 4 * j := by omega
          have hi9 : 4 * (j : Int) ≤ ((4 * j + 4 : Nat) : Int) := by omega
          have hbr2 := (Below.refl wr.heap.size wr).drew
          have kk2 : ∀ w', Below wr.heap.size wr w' → w'.cell? ⟨w.heap.size, 1, none⟩ = some (.int .i64 s) := fun w' h => kk1 w' (hB.trans (h.mono hB.size))
          have hc1 := put_any wr.heap.size none 0 0 [] s 4 (by omega) (by omega) (by omega) wr.drew (Nat.le_refl _) (Own.nil_ _ _ _ _)
          have HC1 := Lib.hid hc1
          have HCHL := Lib.hid hchl
          clear hpp hpart hpart2 hc1 hp hchl hplen
          go_wp2_with fail
          go_region_held3 (fun w' => Below wr.heap.size wr w')
            (first | assumption | exact hbr2)
            (first
              | (go_at_call 27; refine HC1.out.mono ?_; rintro e w12 ⟨A12, c12, rfl, ho12, hB12'⟩; have hN : Below wr.heap.size wr w12 := hbr2.trans hB12')
              | (refine step_app _ (by rfl) (.tmp 64) (.tmp 69) 25 (by rfl) 5 1 1 elemB wr.heap.size A12 (0 + 4) c12 _ (by rfl) ho12 _ (some ⟨b10, 4 * j, none⟩) 4 (c10 - 4 * j) (ch.map u8v) (by rfl) (HPART.out w12 hN) (u8v_one _) 8 rfl ((le s 4 ++ ch).map u8v) (by simp) (by decide) (by decide) hN.size ?_; intro A13 c13 w13 ho13 hg13 hl13; have hN13 : Below wr.heap.size wr w13 := below_app hN hN.size (fun i hi => (ho12.block i hi).1) hg13))
          clear hw1 hw2 hi3 hi4 hi5 hi6 hi7 hi8 hi9 hcne hi0 hi1 kk1 kk2
          have hsn0 := mkSec_nil
          have hrb := RB.of_own4 (n := 8) ho13
          have hbl : (le s 4 ++ ch).length = 8 := by rw [List.length_append, le_length, HCHL.out]
          have HO13 := Lib.hid (HO.out.below hN13)
          have hBW := hB.trans (hN13.mono hB.size)
          generalize hb8 : le s 4 ++ ch = b8 at ho13 hrb hbl
          have HB8 := Lib.hid hb8
          have HO8 := Lib.hid ho13
          have HRB := Lib.hid hrb
          have hblk0 := Blk.new w13 47 sec0
          rw [← mkSec_nil] at hblk0
          have HBLK := Lib.hid hblk0
          have HSN := Lib.hid hsn0
          clear hb8 ho13 hrb hblk0 hsn0
          go_wp2_with fail
          go_loopw [9] (fun v wq => ∃ q : Nat, q ≤ 8 ∧ v = .int .i64 q ∧ Blk wq w13.heap.size 47 (secCells (mkSec (b8.take q))).toArray ∧ Below w13.heap.size w13 wq)
            (fun v _ => 8 - (intOf v).toNat)
          case atStart => exact ⟨0, by omega, rfl, by rw [List.take_zero]; first | exact HBLK.out | (rw [← HSN.out]; exact HBLK.out), (Below.refl _ _).alloc (Nat.le_refl _) _⟩
          case round =>
            obtain ⟨q, hq, rfl, hbq, hBq⟩ := hrel
            by_cases hlt8 : q < 8
            · obtain ⟨b13, o13, hA, _, hcb⟩ := (HRB.out.below hBq).at_ (k := q) (by omega)
              subst hA
              obtain ⟨vq, hcq⟩ := hbq.cell_ex (i := q) (by rw [List.size_toArray, secCells_length]; exact hlt8)
              have hfq := hbq.frozen q
              have hq0 : (0 : Int) ≤ (q : Int) := by omega
              have hq8 : (q : Int) < 8 := by omega
              have hst := mkSec_set b8 q (by omega) (by omega)
              have HST := Lib.hid hst
              have HBQ := Lib.hid hbq
              clear hst hbq
              go_wp2_with fail
              go_roundw
              case rel => exact ⟨q + 1, by omega, by go_num, by rw [← HST.out]; exact HBQ.out.set_ q _, hBq.setCell (p := ⟨w13.heap.size, q, none⟩) (Nat.le_refl _) _⟩
              case measure => simp [intOf]; omega
            · obtain rfl : q = 8 := by omega
              rw [List.take_of_length_le (by omega)] at hbq
              have HBQ := Lib.hid hbq
              have hsq := hBq.size
              have hsW := hBW.size
              clear hbq
              go_wp2_with (first
                | ((with_reducible show Go.wpList _ _ _ (Go.Oper.mk _ (Go.Op.load _ _) _ _ _ _ :: _) _ _); refine wpList_load_row rfl 47 _ rfl w13.heap.size rfl 47 (secCells (mkSec b8)).toArray (0, 0) _ HBQ.out.row under_sec rfl (info_secA _) ?_)
                | ((with_reducible show Go.wpList _ _ _ (Go.Oper.mk _ (Go.Op.buildSlice _ _ _) _ _ _ _ :: _) _ _); refine wpList_build_sec wr rfl (.tmp 82) rfl (mkSec b8) rfl ?_)
                | ((with_reducible show Go.wpList _ _ _ (Go.Oper.mk _ (Go.Op.call { callee := Go.Callee.builtin Go.Builtin.append, args := _, argTypes := _ }) _ _ _ _ :: _) _ _); refine wpList_app _ rfl (.tmp 81) (.tmp 83) 28 rfl 47 8 8 elemSec wE.heap.size A j c' _ rfl ((HO13.out.below hBq).alloc _) (wr.heap.size + 1) (some ⟨wr.heap.size, 0, none⟩) 1 1 (secCells (mkSec b8)) rfl (reads_sec _ _) (secCells_one _) (j + 1) rfl (secsCells ((List.range (j + 1)).map (encSec s rs))) (by rw [List.range_succ, List.map_append, List.map_cons, List.map_nil, ← HPP.out, HB8.out]; simp [secsCells]) (by simp only [maxLen]; omega) (by omega) (by simp; omega) ?_; intro A15 c15 w15 ho15 hg15 hl15; have hB15 : Below wE.heap.size wE w15 := below_app ((hBW.trans (hBq.mono hsW)).alloc (by omega) _) (by simp; omega) (fun i hi => (HO13.out.block i hi).1) hg15))
              go_roundw
              case rel => exact ⟨j + 1, A15, c15, by omega, by go_num, rfl, ho15, hB15⟩
              case measure => simp [intOf]; omega
        · obtain rfl : j = N := by omega
          have hes : (encSecs k s p).length = j := by rw [HE.out, List.length_map, List.length_range]; exact HN.out.symm
          have hcell : secsCells ((List.range j).map (encSec s rs)) = secsCells (encSecs k s p) := by rw [HE.out, ← HN.out]
          have HES := Lib.hid hes
          have HCL := Lib.hid hcell
          clear hes hcell
          go_wp2_with fail
          go_ret2
          refine ⟨A, c', by rw [HES.out]; rfl, ?_, (hB0.trans (hB10.mono hB0.size)).trans (hB.mono (Nat.le_trans hB0.size hB10.size))⟩
          rw [HES.out, ← HCL.out]
          exact HO.out.mono_ (Nat.le_trans hB0.size hB10.size)
end Go.Proofs.Ytejoofeoffehmaa

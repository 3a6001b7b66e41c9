/- RecordDetects: the walk. -/
import Derived.Test.YtejoofeoffehmaaLR2
import Derived.Test.YtejoofeoffehmaaRt2
namespace Go.Proofs.Ytejoofeoffehmaa
open Go.RowKit

theorem secs_cell (q : Nat) (xs : List UInt8) (N i : Nat) (hx : xs.length = 4 * N) (hi : i < 4 * N) : (secsCells (secsOf q xs N))[i / 4 * 8 + (4 + i % 4)]? = some (u8v (xs[i]'(by omega))) := by
  have hl := secsOf_length q xs N
  have h := sbytes_get (secsOf q xs N) (i / 4) (4 + i % 4) (by rw [hl]; omega) (by omega)
  rw [secsCells_sbytes, List.getElem?_map, show i / 4 * 8 + (4 + i % 4) = 8 * (i / 4) + (4 + i % 4) by omega, h, secsOf_get, encSec_high _ _ _ _ (by omega), show 4 * (i / 4) + i % 4 = i by omega, List.getElem?_eq_getElem (by omega)]
  rfl

attribute [local irreducible] Blk str
set_option maxRecDepth 100000 in
set_option maxHeartbeats 400000 in
theorem law_RecordDetects {w : World} (k : Int) (_hk : -9223372036854775808 ≤ k ∧ k ≤ 9223372036854775807) (s : Int) (_hs : -9223372036854775808 ≤ s ∧ s ≤ 9223372036854775807) (P : Option Addr) (c : Nat) (p : List UInt8) (hl : p.length ≤ c) (hc : c ≤ maxLen) (hR : RB w w.heap.size P p) (at_ : UInt16) (by_ : UInt8) :
    Calls Try.prog 8 #[.agg #[.int .i64 k, .int .i64 s, .slice P p.length c], .int .u16 at_.toNat, .int .u8 by_.toNat] w fun e w' => e = .returned (.bool true) ∧ Below w.heap.size w w' := by
  have hl63 : p.length ≤ 9223372036854775807 := by simp only [maxLen] at hc; omega
  obtain ⟨W, hW⟩ : ∃ W, w.alloc (.cells #[.int .i64 k, .int .i64 s, .slice P p.length c] 27) = W := ⟨_, rfl⟩
  have hB0 : Below w.heap.size w W := by rw [← hW]; exact (Below.refl _ w).alloc (Nat.le_refl _) _
  have hb : Blk W w.heap.size 27 #[.int .i64 k, .int .i64 s, .slice P p.length c] := by rw [← hW]; exact Blk.new _ _ _
  have m0 : W.cell? ⟨w.heap.size, 0, none⟩ = some (.int .i64 k) := hb.cell_of (i := 0) rfl
  have m1 : W.cell? ⟨w.heap.size, 1, none⟩ = some (.int .i64 s) := hb.cell_of (i := 1) rfl
  have m2 : W.cell? ⟨w.heap.size, 2, none⟩ = some (.slice P p.length c) := hb.cell_of (i := 2) rfl
  have hz := zeroRecE
  have HR := Lib.hid (hR.later hB0)
  generalize hn : p.length = n at *
  have HN := Lib.hid hn
  clear hR hb hl hc hn
  go_enter Try.func8, Try.ntmps8
  by_cases hbig : 300 < n
  · go_wp2_with fail
    refine (awake_any _).mono ?_
    rintro e w1 ⟨rfl, hB1⟩
    go_wp2_with fail
    go_ret
    exact ⟨rfl, hB0.trans (hB1.mono hB0.size)⟩
  · by_cases hby : by_ = 0
    · subst hby
      go_wp2_with fail
      refine (awake_any _).mono ?_
      rintro e w1 ⟨rfl, hB1⟩
      go_wp2_with fail
      go_ret
      exact ⟨rfl, hB0.trans (hB1.mono hB0.size)⟩
    · have hby0 : ¬ (by_.toNat : Int) = 0 := by
        intro h
        exact hby (UInt8.toNat_inj.1 (by simpa using h))
      have hby1 : ((by_.toNat : Int) == 0) = false := by simpa using hby0
      have HBY := Lib.hid hby
      clear hl63 hby
      go_wp2_with fail
      refine (fit_any k s P n c W).mono ?_
      rintro e w1 ⟨rfl, hB1⟩
      obtain ⟨hK1, hK2⟩ := fitK_in k
      obtain ⟨hS1, hS2⟩ := fitS_in s
      generalize fitK k = K at hK1 hK2 ⊢
      generalize fitS s = q at hS1 hS2 ⊢
      have HR1 := Lib.hid ((HR.out.below hB1).more hB1.size)
      go_wp2_with fail
      refine (encode_fit K q P n c p HN.out hK1 hK2 hS1 (by omega) (by omega) w1 HR1.out).mono ?_
      rintro e w2 ⟨A, cA, rfl, hoA, hB2⟩
      have hNN := sizeOfRec_pos n
      have hcA := own_cap hoA
      have hcN := hoA.cap
      obtain ⟨N, hN⟩ : ∃ N, N = sizeOfRec n := ⟨_, rfl⟩
      rw [← hN] at hoA hNN hcN ⊢
      have HOA := Lib.hid hoA
      have HNS := Lib.hid hN
      have hN0 : ¬ (N : Int) = 0 := by omega
      have hat := at_.toNat_lt
      obtain ⟨i, hi, hi2⟩ : ∃ i : Nat, i < 4 * N ∧ (at_.toNat : Int) % (4 * (N : Int)) = (i : Int) := ⟨at_.toNat % (4 * N), Nat.mod_lt _ (by omega), by rw [show (4 * (N : Int)) = ((4 * N : Nat) : Int) by omega]; exact (Int.natCast_emod _ _).symm⟩
      have hBw2 := hB0.trans (hB1.mono hB0.size) |>.trans (hB2.mono (Nat.le_trans hB0.size hB1.size))
      clear hoA hN m0 m1 m2
      by_cases i1 : i = 1
      · subst i1
        go_wp2_with fail
        refine (awake_any _).mono ?_
        rintro e w3 ⟨rfl, hB3⟩
        go_wp2_with fail
        go_ret
        exact ⟨rfl, below_then hBw2 hB3⟩
      · by_cases i2 : i = 2
        · subst i2
          go_wp2_with fail
          refine (awake_any _).mono ?_
          rintro e w3 ⟨rfl, hB3⟩
          go_wp2_with fail
          go_ret
          exact ⟨rfl, below_then hBw2 hB3⟩
        · have i1' : ¬ (i : Int) = 1 := by omega
          have i2' : ¬ (i : Int) = 2 := by omega
          have i1'' : ((i : Int) == 1) = false := by simpa using i1'
          have i2'' : ((i : Int) == 2) = false := by simpa using i2'
          have I1 := Lib.hid i1
          have I2 := Lib.hid i2
          clear i1 i2
          have o0 := Own.lit (base := w2.heap.size) (e := 47) (size := 8) w2 #[] 0 (Nat.le_refl _) (by decide) rfl
          have HO0 := Lib.hid o0
          have hBe : Below w2.heap.size w2 (w2.alloc (.cells #[] 47)) := (Below.refl _ w2).alloc (Nat.le_refl _) _
          clear o0
          have hrdA : Reads w2 w2.heap.size 8 A N (secsCells (secsOf q (recFull K p) N)) := by
            have h := HOA.out.reads
            rw [encSecs_full, HN.out, ← HNS.out] at h
            exact h
          have HRDA := Lib.hid hrdA
          clear hrdA
          have hfl : (recFull K p).length = 4 * N := by rw [recFull_length, HN.out, ← HNS.out]
          have hcellx := secs_cell q (recFull K p) N i hfl hi
          obtain ⟨x, hx⟩ : ∃ x, x = (recFull K p)[i]'(by omega) := ⟨_, rfl⟩
          rw [← hx] at hcellx
          have HX := Lib.hid hx
          have HCX := Lib.hid hcellx
          clear hx hcellx
          obtain ⟨a, ha⟩ : ∃ a, a = i / 4 := ⟨_, rfl⟩
          obtain ⟨t, ht⟩ : ∃ t, t = i % 4 := ⟨_, rfl⟩
          have ha2 : (i : Int) / 4 = (a : Int) := by omega
          have ht2 : (i : Int) % 4 = (t : Int) := by omega
          have haN : (a : Int) < (N : Int) := by omega
          have ha0 : (0 : Int) ≤ (a : Int) := by omega
          have ht4 : t < 4 := by omega
          have ht8 : (4 : Int) + (t : Int) < 8 := by omega
          have ht0 : (0 : Int) ≤ (4 : Int) + (t : Int) := by omega
          have htn : ((4 : Int) + (t : Int)).toNat = 4 + t := by omega
          have HA := Lib.hid ha
          have HT := Lib.hid ht
          clear ha ht
          have hxor := bits_xor_u8 x by_
          go_wp2_with (first
            | ((with_reducible show Go.wpList _ _ _ (Go.Oper.mk _ (Go.Op.call { callee := Go.Callee.builtin Go.Builtin.append, args := #[.tmp 49, .tmp 50], argTypes := _ }) _ _ _ _ :: _) _ _)
               refine wpList_app _ rfl (.tmp 49) (.tmp 50) 28 rfl 47 8 8 elemSec w2.heap.size _ 0 0 [] rfl HO0.out _ A N cA (secsCells (secsOf q (recFull K p) N)) rfl (HRDA.out.below hBe) (secsCells_one _) N (by omega) (secsCells (secsOf q (recFull K p) N)) rfl (by simp only [maxLen]; omega) (by omega) hBe.size ?_
               intro A3 c3 w3 ho3 hg3 hl3
               have hB3 : Below w2.heap.size w2 w3 := below_app hBe hBe.size (fun j hj => (HO0.out.block j hj).1) hg3
               have hc3 := own_cap ho3
               have hcc3 := ho3.cap
               obtain ⟨g, cap, hv, hbg, hgl⟩ := World.ownsRow.form ho3 (by omega)
               injection hv with hv1 hv2 hv3
               subst hv1 hv3
               have hcell := World.ownsRow.cellAt ho3 (a * 8 + (4 + t)) (by omega)
               have hfr := World.ownsRow.frozenAt ho3 (a * 8 + (4 + t))
               rw [HA.out, HT.out, HCX.out, ← HA.out, ← HT.out] at hcell
               have hst := World.ownsRow.stored ho3 (a * 8 + (4 + t)) (u8v (x ^^^ by_))
               have HST := Lib.hid hst
               clear ho3 hg3 hl3 hst))
          clear i1' i2' i1'' i2''
          change w3.cell? ⟨g, a * 8 + (4 + t), none⟩ = some (.int .u8 (x.toNat : Int)) at hcell
          go_region
          obtain ⟨ho4, _⟩ := HST.out
          have hB4 : Below w2.heap.size w2 (w3.setCell ⟨g, a * 8 + (4 + t), none⟩ (u8v (x ^^^ by_))) := hB3.setCell (p := ⟨g, a * 8 + (4 + t), none⟩) hbg _
          have hrs4 : RS (w3.setCell ⟨g, a * 8 + (4 + t), none⟩ (u8v (x ^^^ by_))) (w3.setCell ⟨g, a * 8 + (4 + t), none⟩ (u8v (x ^^^ by_))).heap.size (some ⟨g, 0, none⟩) (secsOf q ((recFull K p).set i (x ^^^ by_)) N) := by
            have h := Reads.of_own ho4
            unfold RS
            rw [secsOf_length, secsOf_set q (recFull K p) N i _ hfl hi, ← HA.out, ← HT.out]
            exact h
          obtain ⟨er, her, hdec⟩ := dec_detects K q p i (x ^^^ by_) hS1 (by omega) (by rw [HN.out]; omega) (by rw [HN.out, ← HNS.out]; exact hi) I1.out I2.out (fun h => by
            rw [← HX.out]
            intro h0
            have h9 := xor_back x by_
            rw [h0, UInt8.xor_self] at h9
            exact HBY.out h9.symm)
          rw [HN.out, ← HNS.out] at hdec
          have HDEC := Lib.hid hdec
          have HRS4 := Lib.hid hrs4
          have hsl := secsOf_length q ((recFull K p).set i (x ^^^ by_)) N
          have HSL := Lib.hid hsl
          clear hcell hfr ho4 hrs4 hdec HST hsl hxor
          generalize secsOf q ((recFull K p).set i (x ^^^ by_)) N = ss at HDEC HRS4 HSL
          rw [show (Value.int .u8 ((x.toNat ^^^ by_.toNat : Nat) : Int)) = u8v (x ^^^ by_) by simp [u8v]]
          have hB4' : Below w2.heap.size w2 (w3.setCell ⟨g, a * 8 + (4 + t), none⟩ (u8v (x ^^^ by_))).drew := hB4.drew
          have hrs4' : RS (w3.setCell ⟨g, a * 8 + (4 + t), none⟩ (u8v (x ^^^ by_))).drew (w3.setCell ⟨g, a * 8 + (4 + t), none⟩ (u8v (x ^^^ by_))).drew.heap.size (some ⟨g, 0, none⟩) ss := HRS4.out
          clear hB4 HRS4
          generalize (w3.setCell ⟨g, a * 8 + (4 + t), none⟩ (u8v (x ^^^ by_))).drew = w4 at hB4' hrs4' ⊢
          have HRS4 := Lib.hid hrs4'
          clear hrs4'
          go_wp2_with fail
          refine (decode_is _ N c3 ss er 0 0 [] 0 0 HDEC.out rfl HSL.out hcc3 hc3 w4 HRS4.out).mono ?_
          rintro e w5 ⟨P5, c5, rfl, ho5, hB5⟩
          have hB5' : Below w5.heap.size w5 (w5.alloc (.cells #[.int .i64 0, .int .i64 0, .slice P5 0 c5] 27)) := (Below.refl _ w5).alloc (Nat.le_refl _) _
          clear ho5
          go_wp2_with fail
          refine (awake_any _).mono ?_
          rintro e w6 ⟨rfl, hB6⟩
          rcases her with rfl | rfl
          · go_wp2_with fail
            go_ret
            exact ⟨rfl, below_then hBw2 (below_then hB4' (below_then hB5 (below_then hB5' hB6)))⟩
          · go_wp2_with fail
            go_ret
            exact ⟨rfl, below_then hBw2 (below_then hB4' (below_then hB5 (below_then hB5' hB6)))⟩
end Go.Proofs.Ytejoofeoffehmaa

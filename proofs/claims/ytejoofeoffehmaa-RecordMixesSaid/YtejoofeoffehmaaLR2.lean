/- RecordReturns: the walk. -/
import Derived.Test.YtejoofeoffehmaaAw13
import Derived.Test.YtejoofeoffehmaaRt
namespace Go.Proofs.Ytejoofeoffehmaa
open Go.RowKit

/-- Encode of a record that is possible. -/
theorem encode_fit (k q : Nat) (P : Option Addr) (n c : Nat) (p : List UInt8) (hn : p.length = n) (hk1 : 1 ≤ k) (hk2 : k ≤ 255) (hq1 : 1 ≤ q) (hq2 : q ≤ 4294967295) (hp : n ≤ 4096) (w : World) (hR : RB w w.heap.size P p) :
    Calls Try.prog 14 #[.agg #[.int .i64 k, .int .i64 q, .slice P n c]] w fun e w' => ∃ A c, e = .returned (.tuple #[.slice A (sizeOfRec n) c, .int .i64 0]) ∧
      Own w' w.heap.size 47 8 A (sizeOfRec n) c (secsCells (encSecs k q p)) ∧ Below w.heap.size w w' := by
  refine (encode_any k q P n c p hn (by omega) w hR).mono ?_
  rintro e w' ⟨A, c, rfl, ho, hB⟩
  have h1 : encL k q p = encSecs k q p := by
    unfold encL
    rw [if_neg (by omega), if_neg (by omega)]
    rfl
  have h2 : encE k q p.length = 0 := by
    unfold encE
    rw [if_neg (by omega), if_neg (by omega)]
  rw [h1, encSecs_len, hn] at ho
  exact ⟨A, c, by rw [h1, h2, encSecs_len, hn]; rfl, ho, hB⟩

/-- Decode, where what it gives is known. -/
theorem decode_is (A : Option Addr) (n c : Nat) (ss : List Sec) (er k q : Nat) (p : List UInt8) (m np : Nat) (hd : dec ss = ⟨er, k, q, p, m⟩) (hp : p.length = np) (hn : ss.length = n) (hc : n ≤ c) (h64 : c ≤ 9223372036854775807) (w : World) (hR : RS w w.heap.size A ss) :
    Calls Try.prog 17 #[.slice A n c] w fun e w' => ∃ P c, e = .returned (.tuple #[.agg #[.int .i64 k, .int .i64 q, .slice P np c], .int .i64 m, .int .i64 er]) ∧ Own w' w.heap.size 5 1 P np c (p.map u8v) ∧ Below w.heap.size w w' := by
  subst hp
  refine (decode_any A n c ss hn hc h64 w hR).mono ?_
  rintro e w' ⟨P, c, rfl, h, hB⟩
  rw [hd] at h
  exact ⟨P, c, by rw [hd], h, hB⟩

attribute [local irreducible] Blk str
set_option maxRecDepth 100000 in
set_option maxHeartbeats 400000 in
theorem law_RecordReturns {w : World} (k : Int) (_hk : -9223372036854775808 ≤ k ∧ k ≤ 9223372036854775807) (s : Int) (_hs : -9223372036854775808 ≤ s ∧ s ≤ 9223372036854775807) (P : Option Addr) (c : Nat) (p : List UInt8) (hl : p.length ≤ c) (hc : c ≤ maxLen) (hR : RB w w.heap.size P p)
    (M : Option Addr) (mc : Nat) (more : List Sec) (hml : more.length ≤ mc) (hmc : mc ≤ maxLen) (hM : RS w w.heap.size M more) (cut : UInt16) :
    Calls Try.prog 6 #[.agg #[.int .i64 k, .int .i64 s, .slice P p.length c], .slice M more.length mc, .int .u16 cut.toNat] w fun e w' => e = .returned (.bool true) ∧ Below w.heap.size w w' := by
  have hl63 : p.length ≤ 9223372036854775807 := by simp only [maxLen] at hc; omega
  have hm63 : more.length ≤ 9223372036854775807 := by simp only [maxLen] at hmc; omega
  obtain ⟨W, hW⟩ : ∃ W, w.alloc (.cells #[.int .i64 k, .int .i64 s, .slice P p.length c] 27) = W := ⟨_, rfl⟩
  have hB0 : Below w.heap.size w W := by rw [← hW]; exact (Below.refl _ w).alloc (Nat.le_refl _) _
  have hb : Blk W w.heap.size 27 #[.int .i64 k, .int .i64 s, .slice P p.length c] := by rw [← hW]; exact Blk.new _ _ _
  have m0 : W.cell? ⟨w.heap.size, 0, none⟩ = some (.int .i64 k) := hb.cell_of (i := 0) rfl
  have m1 : W.cell? ⟨w.heap.size, 1, none⟩ = some (.int .i64 s) := hb.cell_of (i := 1) rfl
  have m2 : W.cell? ⟨w.heap.size, 2, none⟩ = some (.slice P p.length c) := hb.cell_of (i := 2) rfl
  have hz := zeroRecE
  have HR := Lib.hid (hR.later hB0)
  have HM := Lib.hid (hM.later hB0)
  generalize hn : p.length = n at *
  generalize hmn : more.length = mn at *
  have HN := Lib.hid hn
  have HMN := Lib.hid hmn
  clear hR hb hl hc hml hmc hM hn hmn
  go_enter Try.func6, Try.ntmps6
  by_cases hbig : 300 < n
  · go_wp2_with fail
    refine (awake_any _).mono ?_
    rintro e w1 ⟨rfl, hB1⟩
    go_wp2_with fail
    go_ret
    exact ⟨rfl, hB0.trans (hB1.mono hB0.size)⟩
  · by_cases hbig2 : 100 < mn
    · go_wp2_with fail
      refine (awake_any _).mono ?_
      rintro e w1 ⟨rfl, hB1⟩
      go_wp2_with fail
      go_ret
      exact ⟨rfl, hB0.trans (hB1.mono hB0.size)⟩
    · clear hl63 hm63
      go_wp2_with fail
      refine (fit_any k s P n c W).mono ?_
      rintro e w1 ⟨rfl, hB1⟩
      obtain ⟨hK1, hK2⟩ := fitK_in k
      obtain ⟨hS1, hS2⟩ := fitS_in s
      generalize fitK k = K at hK1 hK2 ⊢
      generalize fitS s = q at hS1 hS2 ⊢
      obtain ⟨W1, hW1⟩ : ∃ W1, w1.alloc (.cells #[.int .i64 K, .int .i64 q, .slice P n c] 27) = W1 := ⟨_, rfl⟩
      have hB1' : Below w1.heap.size w1 W1 := by rw [← hW1]; exact (Below.refl _ w1).alloc (Nat.le_refl _) _
      have hb1 : Blk W1 w1.heap.size 27 #[.int .i64 K, .int .i64 q, .slice P n c] := by rw [← hW1]; exact Blk.new _ _ _
      have a0 : W1.cell? ⟨w1.heap.size, 0, none⟩ = some (.int .i64 K) := hb1.cell_of (i := 0) rfl
      have a1 : W1.cell? ⟨w1.heap.size, 1, none⟩ = some (.int .i64 q) := hb1.cell_of (i := 1) rfl
      have a2 : W1.cell? ⟨w1.heap.size, 2, none⟩ = some (.slice P n c) := hb1.cell_of (i := 2) rfl
      have hBW1 := hB1.trans (hB1'.mono hB1.size)
      have HR1 := Lib.hid ((HR.out.below hBW1).more hBW1.size)
      have HM1 := Lib.hid ((HM.out.below hBW1).more hBW1.size)
      have HB1 := Lib.hid hb1
      clear hb1 hbig hbig2
      go_wp2_with fail
      refine (encode_fit K q P n c p HN.out hK1 hK2 hS1 (by omega) (by omega) W1 HR1.out).mono ?_
      rintro e w2 ⟨A, cA, rfl, hoA, hB2⟩
      have hNN := sizeOfRec_pos n
      have hcA := own_cap hoA
      have hcN := hoA.cap
      obtain ⟨N, hN⟩ : ∃ N, N = sizeOfRec n := ⟨_, rfl⟩
      rw [← hN] at hoA hNN hcN ⊢
      have hb2 := HB1.out.below hB2 HB1.out.lt
      have b0 : w2.cell? ⟨w1.heap.size, 0, none⟩ = some (.int .i64 K) := hb2.cell_of (i := 0) rfl
      have b1 : w2.cell? ⟨w1.heap.size, 1, none⟩ = some (.int .i64 q) := hb2.cell_of (i := 1) rfl
      have b2 : w2.cell? ⟨w1.heap.size, 2, none⟩ = some (.slice P n c) := hb2.cell_of (i := 2) rfl
      have HB2 := Lib.hid hb2
      have HOA := Lib.hid hoA
      have HNS := Lib.hid hN
      have HR2 := Lib.hid ((HR1.out.below hB2).more hB2.size)
      have HM2 := Lib.hid ((HM1.out.below hB2).more hB2.size)
      clear hb2 hoA hN a0 a1 a2 m0 m1 m2
      go_wp2_with fail
      refine (size_in n (by omega) w2).mono ?_
      rintro e w3 ⟨rfl, rfl⟩
      rw [← HNS.out]
      have hN0 : ¬ (N : Int) = 0 := by omega
      have o0 := Own.lit (base := w2.heap.size) (e := 47) (size := 8) w2 #[] 0 (Nat.le_refl _) (by decide) rfl
      have HO0 := Lib.hid o0
      have hBe : Below w2.heap.size w2 (w2.alloc (.cells #[] 47)) := (Below.refl _ w2).alloc (Nat.le_refl _) _
      clear o0
      have hrdA : Reads w2 w2.heap.size 8 A N (secsCells (encSecs K q p)) := HOA.out.reads
      have HRDA := Lib.hid hrdA
      clear hrdA
      go_wp2_with (first
        | ((with_reducible show Go.wpList _ _ _ (Go.Oper.mk _ (Go.Op.call { callee := Go.Callee.builtin Go.Builtin.append, args := #[.tmp 50, .tmp 51], argTypes := _ }) _ _ _ _ :: _) _ _)
           refine wpList_app _ rfl (.tmp 50) (.tmp 51) 28 rfl 47 8 8 elemSec w2.heap.size _ 0 0 [] rfl HO0.out _ A N cA (secsCells (encSecs K q p)) rfl (HRDA.out.below hBe) (secsCells_one _) N (by omega) (secsCells (encSecs K q p)) rfl (by simp only [maxLen]; omega) (by omega) hBe.size ?_
           intro A3 c3 w3 ho3 hg3 hl3
           have hB3 : Below w2.heap.size w2 w3 := below_app hBe hBe.size (fun j hj => (HO0.out.block j hj).1) hg3
           have HO3 := Lib.hid ho3
           clear ho3 hg3 hl3)
        | ((with_reducible show Go.wpList _ _ _ (Go.Oper.mk _ (Go.Op.call { callee := Go.Callee.builtin Go.Builtin.append, args := #[.tmp 52, .tmp 53], argTypes := _ }) _ _ _ _ :: _) _ _)
           refine wpList_app _ rfl (.tmp 52) (.tmp 53) 28 rfl 47 8 8 elemSec w2.heap.size A3 N c3 _ rfl HO3.out _ M mn mc (secsCells more) rfl (by have h := HM2.out.below hB3; unfold RS at h; rw [HMN.out] at h; exact h) (secsCells_one _) (N + mn) rfl (secsCells (encSecs K q p ++ more)) (by simp [secsCells]) (by simp only [maxLen]; omega) (by omega) hB3.size ?_
           intro A4 c4 w4 ho4 hg4 hl4
           have hB4 : Below w2.heap.size w2 w4 := below_app hB3 hB3.size (fun j hj => (HO3.out.block j hj).1) hg4
           have HO4 := Lib.hid ho4
           clear ho4 hg4 hl4))
      have hrs4 : RS w4 w4.heap.size A4 (encSecs K q p ++ more) := by
        have h := HO4.out.reads
        unfold RS
        rw [List.length_append, encSecs_len, HN.out, ← HNS.out, HMN.out]
        exact h
      have hc4 := own_cap HO4.out
      have hcc4 := HO4.out.cap
      refine (decode_is A4 (N + mn) c4 (encSecs K q p ++ more) 0 K q p N n (by rw [dec_enc K q p more hK1 hK2 hS1 (by omega) (by rw [HN.out]; omega), HN.out, ← HNS.out]) HN.out (by rw [List.length_append, encSecs_len, HN.out, ← HNS.out, HMN.out]) hcc4 hc4 w4 hrs4).mono ?_
      rintro e w5 ⟨P5, c5, rfl, ho5, hB5⟩
      obtain ⟨W5, hW5⟩ : ∃ W5, w5.alloc (.cells #[.int .i64 K, .int .i64 q, .slice P5 n c5] 27) = W5 := ⟨_, rfl⟩
      have hB5' : Below w5.heap.size w5 W5 := by rw [← hW5]; exact (Below.refl _ w5).alloc (Nat.le_refl _) _
      have hb5 : Blk W5 w5.heap.size 27 #[.int .i64 K, .int .i64 q, .slice P5 n c5] := by rw [← hW5]; exact Blk.new _ _ _
      have hB25 : Below w2.heap.size w2 W5 := hB4.trans ((hB5.mono hB4.size).trans (hB5'.mono (Nat.le_trans hB4.size hB5.size)))
      have HB5 := Lib.hid hb5
      have HO5 := Lib.hid (ho5.below hB5')
      have hrsA : RS W5 W5.heap.size A (encSecs K q p) := by
        have h := (HRDA.out.below hB25).more hB25.size
        unfold RS
        rw [encSecs_len, HN.out, ← HNS.out]
        exact h
      obtain ⟨r, hr, hr2⟩ : ∃ r : Nat, r < N ∧ (cut.toNat : Int) % (N : Int) = (r : Int) := ⟨cut.toNat % N, Nat.mod_lt _ (by omega), by omega⟩
      have hrsR : RS W5 W5.heap.size A ((encSecs K q p).take r) := hrsA.take_ (by rw [encSecs_len, HN.out, ← HNS.out]; omega)
      have hcw := cut.toNat_lt
      have hr0 : (r : Int) ≤ (cA : Int) := by omega
      have HRSR := Lib.hid hrsR
      have HC4 := Lib.hid hcc4
      clear hb5 ho5 hrsA hrsR hrs4 b0 b1 b2 hcc4
      go_wp2_with fail
      have hdc := dec_enc_cut K q p r hS1 (by omega) (by rw [HN.out]; omega) (by rw [HN.out, ← HNS.out]; exact hr)
      refine (decode_is A r cA ((encSecs K q p).take r) 10 0 0 [] 0 0 hdc rfl (by rw [List.length_take, encSecs_len, HN.out, ← HNS.out]; omega) (by omega) hcA W5 HRSR.out).mono ?_
      rintro e w6 ⟨P6, c6, rfl, ho6, hB6⟩
      obtain ⟨W6, hW6⟩ : ∃ W6, w6.alloc (.cells #[.int .i64 0, .int .i64 0, .slice P6 0 c6] 27) = W6 := ⟨_, rfl⟩
      have hB6' : Below w6.heap.size w6 W6 := by rw [← hW6]; exact (Below.refl _ w6).alloc (Nat.le_refl _) _
      clear hdc ho6
      go_wp2_with fail
      refine (awake_any W6).mono ?_
      rintro e w7 ⟨rfl, hB7⟩
      have hBA : Below W5.heap.size W5 w7 := hB6.trans ((hB6'.mono hB6.size).trans (hB7.mono (Nat.le_trans hB6.size hB6'.size)))
      have hb5 := HB5.out.below hBA HB5.out.lt
      have hB27 := hB25.trans (hBA.mono hB25.size)
      have hb1 := HB2.out.below hB27 HB2.out.lt
      have x0 : w7.cell? ⟨w1.heap.size, 0, none⟩ = some (.int .i64 K) := hb1.cell_of (i := 0) rfl
      have x1 : w7.cell? ⟨w1.heap.size, 1, none⟩ = some (.int .i64 q) := hb1.cell_of (i := 1) rfl
      have x2 : w7.cell? ⟨w1.heap.size, 2, none⟩ = some (.slice P n c) := hb1.cell_of (i := 2) rfl
      have y0 : w7.cell? ⟨w5.heap.size, 0, none⟩ = some (.int .i64 K) := hb5.cell_of (i := 0) rfl
      have y1 : w7.cell? ⟨w5.heap.size, 1, none⟩ = some (.int .i64 q) := hb5.cell_of (i := 1) rfl
      have y2 : w7.cell? ⟨w5.heap.size, 2, none⟩ = some (.slice P5 n c5) := hb5.cell_of (i := 2) rfl
      have hr1 : RB w7 w7.heap.size P p := (HR2.out.below hB27).more hB27.size
      have hr5 : RB w7 w7.heap.size P5 p := by
        have h := (HO5.out.below hBA).reads
        unfold RB
        rw [HN.out]
        exact h
      have HR7 := Lib.hid hr1
      have HR5 := Lib.hid hr5
      clear hb1 hb5 hr1 hr5
      go_wp2_with fail
      refine (rsame_any K q P n c p K q P5 n c5 p HN.out HN.out w7 HR7.out HR5.out).mono ?_
      rintro e w8 ⟨rfl, hB8⟩
      rw [decide_eq_true ⟨rfl, rfl, rfl⟩]
      go_wp2_with fail
      go_ret
      exact ⟨rfl, below_then hB0 (below_then hBW1 (below_then hB2 (below_then hB27 hB8)))⟩
end Go.Proofs.Ytejoofeoffehmaa

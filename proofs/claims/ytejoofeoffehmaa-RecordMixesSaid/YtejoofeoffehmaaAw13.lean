/- Contract: the chapter's examples hold. -/
import Derived.Test.YtejoofeoffehmaaFit
namespace Go.Proofs.Ytejoofeoffehmaa
open Go.RowKit

def exBytes : List UInt8 := [2, 1, 0, 0, 7, 2, 0, 1, 2, 1, 0, 0, 2, 112, 179, 250, 2, 1, 0, 0, 160, 0, 0, 0]
theorem ex_cells : secsCells (encL 7 258 [1, 2]) = exBytes.map u8v := by kernel_rfl
theorem ex_len : (encL 7 258 [1, 2]).length = 3 := by kernel_rfl
theorem ex_err : encE 7 258 ([1, 2] : List UInt8).length = 0 := by kernel_rfl
theorem ex_dec : dec (encL 7 258 [1, 2]) = ⟨0, 7, 258, [1, 2], 3⟩ := by kernel_rfl
theorem ex_sum : (upd 0 [7, 2, 0, 1, 2]).toNat = 2700784496 := by kernel_rfl

theorem encode_ex (w : World) (P : Option Addr) (c : Nat) (hR : RB w w.heap.size P [1, 2]) :
    Calls Try.prog 14 #[.agg #[.int .i64 7, .int .i64 258, .slice P 2 c]] w fun e w' => ∃ A c, e = .returned (.tuple #[.slice A 3 c, .int .i64 0]) ∧ Own w' w.heap.size 47 8 A 3 c (exBytes.map u8v) ∧ Below w.heap.size w w' := by
  refine (encode_any 7 258 P 2 c [1, 2] rfl (by decide) w hR).mono ?_
  rintro e w' ⟨A, c, rfl, ho, hB⟩
  rw [ex_cells] at ho
  rw [ex_len] at ho
  exact ⟨A, c, by rw [ex_len, ex_err]; rfl, ho, hB⟩
theorem sum_ex (w : World) (c : Nat) (A : Option Addr) (hR : RB w w.heap.size A [7, 2, 0, 1, 2]) :
    Calls Try.prog 24 #[.slice A 5 c] w fun e w' => e = .returned (.int .u32 2700784496) ∧ Below w.heap.size w w' :=
  (sum_n A 5 c [7, 2, 0, 1, 2] w hR rfl (by decide)).mono fun e w' ⟨h, hB⟩ => ⟨by rw [h, ex_sum]; rfl, hB⟩
theorem decode_ex (w : World) (A : Option Addr) (c base : Nat) (hc : 3 ≤ c) (h64 : c ≤ 9223372036854775807) (ho : Own w base 47 8 A 3 c (exBytes.map u8v)) :
    Calls Try.prog 17 #[.slice A 3 c] w fun e w' => ∃ P c, e = .returned (.tuple #[.agg #[.int .i64 7, .int .i64 258, .slice P 2 c], .int .i64 3, .int .i64 0]) ∧ Own w' w.heap.size 5 1 P 2 c ([1, 2].map u8v) ∧ Below w.heap.size w w' := by
  refine (decode_any A 3 c (encL 7 258 [1, 2]) ex_len hc h64 w ?_).mono ?_
  · have := ho.reads
    rw [← ex_cells] at this
    unfold RS
    rw [ex_len]
    exact this
  · rintro e w' ⟨P, c, rfl, h, hB⟩
    rw [ex_dec] at h
    exact ⟨P, c, by rw [ex_dec]; rfl, h, hB⟩
theorem own_rng {w : World} {base : Nat} {b n c : Nat} {xs : List Value} {e : TypeId} {size : Nat} (ho : Own w base e size (some ⟨b, 0, none⟩) n c xs) (hn : 0 < n) : w.rangeAt b 0 xs := by
  obtain ⟨_, h⟩ := ho.reads
  obtain ⟨b', o', h1, _, h2⟩ := h hn
  injection h1 with h1; injection h1 with h1 h3; subst h1 h3
  exact h2
theorem own_cap {w : World} {base : Nat} {A : Option Addr} {n c : Nat} {xs : List Value} {e : TypeId} {size : Nat} (ho : Own w base e size A n c xs) : c ≤ 9223372036854775807 := by
  rcases ho.2 with ⟨h1, _⟩ | ⟨g, cap, cur, h1, _, _, _, h2, _⟩
  · injection h1 with _ _ h3; omega
  · injection h1 with _ _ h3; subst h3; simp only [maxLen] at h2; omega

theorem rb_new (w : World) (t : TypeId) (fr : Nat × Nat) (xs : List UInt8) (C : Array Value) (hC : C = (xs.map u8v).toArray) (B : Nat) (hB : w.heap.size < B) : RB (w.alloc (.cells C t fr)) B (some ⟨w.heap.size, 0, none⟩) xs := by
  subst hC
  refine ⟨by simp, fun _ => ⟨w.heap.size, 0, rfl, hB, fun j v hv => ?_⟩⟩
  rw [World.cell?_alloc_mark]
  simpa using hv
theorem ex_eq0 (w : World) : (Op.equalIn 10000 47 (.agg #[.int .u8 2, .int .u8 1, .int .u8 0, .int .u8 0, .int .u8 7, .int .u8 2, .int .u8 0, .int .u8 1]) (.agg #[.int .u8 2, .int .u8 1, .int .u8 0, .int .u8 0, .int .u8 7, .int .u8 2, .int .u8 0, .int .u8 1])).run Try.prog w = .ok true w := by kernel_rfl
theorem ex_eq1 (w : World) : (Op.equalIn 10000 47 (.agg #[.int .u8 2, .int .u8 1, .int .u8 0, .int .u8 0, .int .u8 2, .int .u8 112, .int .u8 179, .int .u8 250]) (.agg #[.int .u8 2, .int .u8 1, .int .u8 0, .int .u8 0, .int .u8 2, .int .u8 112, .int .u8 179, .int .u8 250])).run Try.prog w = .ok true w := by kernel_rfl
theorem ex_eq2 (w : World) : (Op.equalIn 10000 47 (.agg #[.int .u8 2, .int .u8 1, .int .u8 0, .int .u8 0, .int .u8 160, .int .u8 0, .int .u8 0, .int .u8 0]) (.agg #[.int .u8 2, .int .u8 1, .int .u8 0, .int .u8 0, .int .u8 160, .int .u8 0, .int .u8 0, .int .u8 0])).run Try.prog w = .ok true w := by kernel_rfl
attribute [local irreducible] Blk str
set_option maxRecDepth 100000 in
set_option maxHeartbeats 1000000 in
theorem awake_any (w : World) : Calls Try.prog 11 #[] w fun e w' => e = .returned (.bool true) ∧ Below w.heap.size w w' := by
  have hz := zeroRecE
  go_enter Try.func11, Try.ntmps11
  go_wp2_with fail
  have hr0 := rb_new w 5 (0, 0) [1, 2] #[.int .u8 1, .int .u8 2] rfl (w.heap.size + 1) (by omega)
  have hB0 : Below w.heap.size w ((w.alloc (.cells #[.int .u8 1, .int .u8 2] 5)).alloc (.cells #[.int .i64 7, .int .i64 258, .slice (some ⟨w.heap.size, 0, none⟩) 2 2] 27)) := ((Below.refl _ w).alloc (Nat.le_refl _) _).alloc (by simp) _
  have hr1 : RB ((w.alloc (.cells #[.int .u8 1, .int .u8 2] 5)).alloc (.cells #[.int .i64 7, .int .i64 258, .slice (some ⟨w.heap.size, 0, none⟩) 2 2] 27)) (w.heap.size + 2) (some ⟨w.heap.size, 0, none⟩) [1, 2] := Reads.more (Reads.below hr0 ((Below.refl _ _).alloc (by simp) _)) (by omega)
  have hbr : Blk ((w.alloc (.cells #[.int .u8 1, .int .u8 2] 5)).alloc (.cells #[.int .i64 7, .int .i64 258, .slice (some ⟨w.heap.size, 0, none⟩) 2 2] 27)) (w.heap.size + 1) 27 #[.int .i64 7, .int .i64 258, .slice (some ⟨w.heap.size, 0, none⟩) 2 2] := by
    have := Blk.new (w.alloc (.cells #[.int .u8 1, .int .u8 2] 5)) 27 #[.int .i64 7, .int .i64 258, .slice (some ⟨w.heap.size, 0, none⟩) 2 2]
    simpa using this
  have hsz : ((w.alloc (.cells #[.int .u8 1, .int .u8 2] 5)).alloc (.cells #[.int .i64 7, .int .i64 258, .slice (some ⟨w.heap.size, 0, none⟩) 2 2] 27)).heap.size = w.heap.size + 2 := by simp
  generalize (w.alloc (.cells #[.int .u8 1, .int .u8 2] 5)).alloc (.cells #[.int .i64 7, .int .i64 258, .slice (some ⟨w.heap.size, 0, none⟩) 2 2] 27) = W at hB0 hr1 hbr hsz ⊢
  clear hr0
  refine (encode_ex W _ _ (Reads.more hr1 (by omega))).mono ?_
  rintro e w1 ⟨A, c, rfl, ho, hB1⟩
  have hc3 := ho.cap
  have hc63 := own_cap ho
  obtain ⟨b, rfl⟩ := ho.some_ (by omega)
  have hbb := ho.block b rfl
  have HO := Lib.hid ho
  have hbr1 := hbr.below hB1 (by omega)
  have hr2 := Reads.below hr1 (by rw [← hsz]; exact hB1)
  have hb1s := hB1.size
  have HBR := Lib.hid hbr1
  have HR := Lib.hid hr2
  clear ho hbr hr1 hbr1 hr2
  go_wp2_with fail
  refine (sum_ex _ _ _ (rb_new w1 _ _ [7, 2, 0, 1, 2] _ rfl _ (by simp))).mono ?_
  rintro e w3 ⟨rfl, hB3'⟩
  have hB3 : Below w1.heap.size w1 w3 := below_then ((Below.refl _ w1).alloc (Nat.le_refl _) _) hB3'
  have ho3 := HO.out.below hB3
  have hc := own_rng ho3 (by omega)
  have q0 : w3.cell? ⟨b, 0, none⟩ = some (.int .u8 2) := hc 0 _ rfl
  have q1 : w3.cell? ⟨b, 1, none⟩ = some (.int .u8 1) := hc 1 _ rfl
  have q2 : w3.cell? ⟨b, 2, none⟩ = some (.int .u8 0) := hc 2 _ rfl
  have q3 : w3.cell? ⟨b, 3, none⟩ = some (.int .u8 0) := hc 3 _ rfl
  have q4 : w3.cell? ⟨b, 4, none⟩ = some (.int .u8 7) := hc 4 _ rfl
  have q5 : w3.cell? ⟨b, 5, none⟩ = some (.int .u8 2) := hc 5 _ rfl
  have q6 : w3.cell? ⟨b, 6, none⟩ = some (.int .u8 0) := hc 6 _ rfl
  have q7 : w3.cell? ⟨b, 7, none⟩ = some (.int .u8 1) := hc 7 _ rfl
  have q8 : w3.cell? ⟨b, 8, none⟩ = some (.int .u8 2) := hc 8 _ rfl
  have q9 : w3.cell? ⟨b, 9, none⟩ = some (.int .u8 1) := hc 9 _ rfl
  have q10 : w3.cell? ⟨b, 10, none⟩ = some (.int .u8 0) := hc 10 _ rfl
  have q11 : w3.cell? ⟨b, 11, none⟩ = some (.int .u8 0) := hc 11 _ rfl
  have q12 : w3.cell? ⟨b, 12, none⟩ = some (.int .u8 2) := hc 12 _ rfl
  have q13 : w3.cell? ⟨b, 13, none⟩ = some (.int .u8 112) := hc 13 _ rfl
  have q14 : w3.cell? ⟨b, 14, none⟩ = some (.int .u8 179) := hc 14 _ rfl
  have q15 : w3.cell? ⟨b, 15, none⟩ = some (.int .u8 250) := hc 15 _ rfl
  have q16 : w3.cell? ⟨b, 16, none⟩ = some (.int .u8 2) := hc 16 _ rfl
  have q17 : w3.cell? ⟨b, 17, none⟩ = some (.int .u8 1) := hc 17 _ rfl
  have q18 : w3.cell? ⟨b, 18, none⟩ = some (.int .u8 0) := hc 18 _ rfl
  have q19 : w3.cell? ⟨b, 19, none⟩ = some (.int .u8 0) := hc 19 _ rfl
  have q20 : w3.cell? ⟨b, 20, none⟩ = some (.int .u8 160) := hc 20 _ rfl
  have q21 : w3.cell? ⟨b, 21, none⟩ = some (.int .u8 0) := hc 21 _ rfl
  have q22 : w3.cell? ⟨b, 22, none⟩ = some (.int .u8 0) := hc 22 _ rfl
  have q23 : w3.cell? ⟨b, 23, none⟩ = some (.int .u8 0) := hc 23 _ rfl
  have HO3 := Lib.hid ho3
  have e0 := ex_eq0
  have e1 := ex_eq1
  have e2 := ex_eq2
  clear hc ho3
  go_wp2_with fail
  clear q0 q1 q2 q3 q4 q5 q6 q7 q8 q9 q10 q11 q12 q13 q14 q15 q16 q17 q18 q19 q20 q21 q22 q23 e0 e1 e2
  refine (decode_ex w3 _ _ _ hc3 hc63 HO3.out).mono ?_
  rintro e w4 ⟨P, c4, rfl, ho4, hB4⟩
  have hB34 := hB3.trans (hB4.mono hB3.size)
  have hbr4 := HBR.out.below hB34 HBR.out.lt
  have hr4 := Reads.below HR.out (hB34.mono (by rw [← hsz]; exact hb1s))
  have hp4 : RB w4 w4.heap.size P [1, 2] := ho4.reads
  obtain ⟨W4, hW4⟩ : ∃ W4, w4.alloc (.cells #[.int .i64 7, .int .i64 258, .slice P 2 c4] 27) = W4 := ⟨_, rfl⟩
  have hB5 : Below w4.heap.size w4 W4 := by rw [← hW4]; exact (Below.refl _ w4).alloc (Nat.le_refl _) _
  have hbx : Blk W4 w4.heap.size 27 #[.int .i64 7, .int .i64 258, .slice P 2 c4] := by rw [← hW4]; exact Blk.new _ _ _
  have hby := hbr4.below hB5 hbr4.lt
  have hs4 := hB34.size
  have x0 : W4.cell? ⟨w4.heap.size, 0, none⟩ = some (.int .i64 7) := hbx.cell_of (i := 0) rfl
  have x1 : W4.cell? ⟨w4.heap.size, 1, none⟩ = some (.int .i64 258) := hbx.cell_of (i := 1) rfl
  have x2 : W4.cell? ⟨w4.heap.size, 2, none⟩ = some (.slice P 2 c4) := hbx.cell_of (i := 2) rfl
  have y0 : W4.cell? ⟨w.heap.size + 1, 0, none⟩ = some (.int .i64 7) := hby.cell_of (i := 0) rfl
  have y1 : W4.cell? ⟨w.heap.size + 1, 1, none⟩ = some (.int .i64 258) := hby.cell_of (i := 1) rfl
  have y2 : W4.cell? ⟨w.heap.size + 1, 2, none⟩ = some (.slice (some ⟨w.heap.size, 0, none⟩) 2 2) := hby.cell_of (i := 2) rfl
  have hra : RB W4 W4.heap.size (some ⟨w.heap.size, 0, none⟩) [1, 2] := Reads.more (Reads.below hr4 (hB5.mono (by omega))) (by have := hB5.size; omega)
  have hrb : RB W4 W4.heap.size P [1, 2] := Reads.more (Reads.below hp4 hB5) hB5.size
  have HRA := Lib.hid hra
  have HRB := Lib.hid hrb
  clear hra hrb hby hbx hp4 hr4 hbr4 ho4
  go_wp2_with fail
  refine (rsame_any 7 258 _ 2 _ [1, 2] 7 258 _ 2 _ [1, 2] rfl rfl W4 HRA.out HRB.out).mono ?_
  rintro e w5 ⟨rfl, hB6⟩
  go_wp2_with fail
  refine (size_in 0 (by decide) _).mono ?_
  rintro e w6 ⟨rfl, rfl⟩
  go_wp2_with fail
  refine (size_in 1 (by decide) _).mono ?_
  rintro e w6 ⟨rfl, rfl⟩
  go_wp2_with fail
  refine (size_in 2 (by decide) _).mono ?_
  rintro e w6 ⟨rfl, rfl⟩
  go_wp2_with fail
  refine (size_in 5 (by decide) _).mono ?_
  rintro e w6 ⟨rfl, rfl⟩
  go_wp2_with fail
  refine (size_in 4096 (by decide) _).mono ?_
  rintro e w6 ⟨rfl, rfl⟩
  go_wp2_with fail
  go_ret
  exact ⟨rfl, (hB0.trans (hB1.mono hB0.size)).trans ((hB34.mono (by omega)).trans ((hB5.mono (by omega)).trans (hB6.mono (by have := hB5.size; omega))))⟩
end Go.Proofs.Ytejoofeoffehmaa

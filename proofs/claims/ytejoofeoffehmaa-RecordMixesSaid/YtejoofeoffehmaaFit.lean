/- Contract: fit. -/
import Derived.Test.YtejoofeoffehmaaSm
namespace Go.Proofs.Ytejoofeoffehmaa
open Go.RowKit

def fitK (k : Int) : Nat := (k.tmod 255).natAbs + 1
def fitS (k : Int) : Nat := (k.tmod 1000000).natAbs + 1
theorem tmod_in (k m : Int) (hm : 0 < m) : -m < k.tmod m ∧ k.tmod m < m := ⟨Int.lt_tmod_of_pos k hm, Int.tmod_lt_of_pos k hm⟩
theorem fitK_in (k : Int) : 1 ≤ fitK k ∧ fitK k ≤ 255 := by
  have := tmod_in k 255 (by decide)
  unfold fitK; omega
theorem fitS_in (k : Int) : 1 ≤ fitS k ∧ fitS k ≤ 1000000 := by
  have := tmod_in k 1000000 (by decide)
  unfold fitS; omega

attribute [local irreducible] Blk
set_option maxRecDepth 100000 in
set_option maxHeartbeats 400000 in
theorem fit_any (k s : Int) (P : Option Addr) (n c : Nat) (w : World) :
    Calls Try.prog 20 #[.agg #[.int .i64 k, .int .i64 s, .slice P n c]] w fun e w' => e = .returned (.agg #[.int .i64 (fitK k : Nat), .int .i64 (fitS s : Nat), .slice P n c]) ∧ Below w.heap.size w w' := by
  obtain ⟨W, hW⟩ : ∃ W, (w.alloc (.cells #[.int .i64 k, .int .i64 s, .slice P n c] 27)).alloc (.cells #[.int .i64 0, .int .i64 0, .slice none 0 0] 27) = W := ⟨_, rfl⟩
  have hB : Below w.heap.size w W := by rw [← hW]; exact ((Below.refl _ w).alloc (Nat.le_refl _) _).alloc (by simp) _
  have b1 : Blk W w.heap.size 27 #[.int .i64 k, .int .i64 s, .slice P n c] := by rw [← hW]; exact (Blk.new _ _ _).alloc _
  have b2 : Blk W (w.heap.size + 1) 27 #[.int .i64 0, .int .i64 0, .slice none 0 0] := by
    rw [← hW]
    have := Blk.new (w.alloc (.cells #[.int .i64 k, .int .i64 s, .slice P n c] 27)) 27 #[.int .i64 0, .int .i64 0, .slice none 0 0]
    simpa using this
  have m0 : W.cell? ⟨w.heap.size, 0, none⟩ = some (.int .i64 k) := b1.cell_of (i := 0) rfl
  have m1 : W.cell? ⟨w.heap.size, 1, none⟩ = some (.int .i64 s) := b1.cell_of (i := 1) rfl
  have m2 : W.cell? ⟨w.heap.size, 2, none⟩ = some (.slice P n c) := b1.cell_of (i := 2) rfl
  have HB2 := Lib.hid b2
  clear b1 b2
  have hz := zeroRecE
  have HK : Hid (fitK k = (k.tmod 255).natAbs + 1) := Lib.hid rfl
  have HS : Hid (fitS s = (s.tmod 1000000).natAbs + 1) := Lib.hid rfl
  have K0 := tmod_in k 255 (by decide)
  have S0 := tmod_in s 1000000 (by decide)
  have hend : ∀ (X Y : Int) (a : Act), X = (fitK k : Nat) → Y = (fitS s : Nat) → a.tmps.getD 2 undef = .pointer (some ⟨w.heap.size + 1, 0, none⟩) → a.defers = [] →
      bodyPost Try.prog Try.f20 (fun e w' => e = .returned (.agg #[.int .i64 (fitK k : Nat), .int .i64 (fitS s : Nat), .slice P n c]) ∧ Below w.heap.size w w') .ret a (W.setRow (w.heap.size + 1) #[.int .i64 X, .int .i64 Y, .slice P n c]) := by
    intro X Y a hX hY ha hd
    subst hX hY
    have hu : ∃ fs, Try.prog.underlying 27 = some (.struct fs) := ⟨_, Try.underlying27⟩
    obtain ⟨fs, hu⟩ := hu
    have hinfo : (Try.prog.info? 27).map (·.size) = some (#[.int .i64 (fitK k : Nat), .int .i64 (fitS s : Nat), .slice P n c] : Array Value).size := by kernel_rfl
    exact bodyPost_ret (results_cell_row (by rfl) _ _ (w.heap.size + 1) 27 #[.int .i64 (fitK k : Nat), .int .i64 (fitS s : Nat), .slice P n c] (0, 0) _ ha (HB2.out.setRow_ _).row hu rfl hinfo) hd ⟨rfl, below_setRow hB (by omega) _⟩
  have HEND := Lib.hid hend
  clear hend
  go_enter Try.func20, Try.ntmps20
  obtain ⟨a, ha'⟩ : ∃ a, k.tmod 255 = a := ⟨_, rfl⟩
  obtain ⟨b, hb'⟩ : ∃ b, s.tmod 1000000 = b := ⟨_, rfl⟩
  rw [ha'] at HK K0
  rw [hb'] at HS S0
  by_cases ha : a < 0
  · have k1 : -a + 1 = (fitK k : Nat) := by rw [HK.out]; omega
    have K1 := Lib.hid k1
    clear k1
    by_cases hb : b < 0
    · have k2 : -b + 1 = (fitS s : Nat) := by rw [HS.out]; omega
      have K2 := Lib.hid k2
      clear k2
      go_wp2_with (first
        | ((with_reducible show Go.wpList _ _ _ (Go.Oper.mk _ (Go.Op.store _ _ _) _ _ _ _ :: _) _ _); go_loud (refine wpList_store_row rfl 27 _ _ rfl (w.heap.size + 1) #[.int .i64 (-a + 1), .int .i64 (-b + 1), .slice P n c] rfl rfl 27 #[.int .i64 0, .int .i64 0, .slice none 0 0] HB2.out.row (by kernel_rfl) rfl (by simp [Value.oneCell']) ?_)))
      exact HEND.out _ _ _ K1.out K2.out rfl rfl
    · have k2 : b + 1 = (fitS s : Nat) := by rw [HS.out]; omega
      have K2 := Lib.hid k2
      clear k2
      go_wp2_with (first
        | ((with_reducible show Go.wpList _ _ _ (Go.Oper.mk _ (Go.Op.store _ _ _) _ _ _ _ :: _) _ _); refine wpList_store_row rfl 27 _ _ rfl (w.heap.size + 1) #[.int .i64 (-a + 1), .int .i64 (b + 1), .slice P n c] rfl rfl 27 #[.int .i64 0, .int .i64 0, .slice none 0 0] HB2.out.row (by kernel_rfl) rfl (by simp [Value.oneCell']) ?_))
      exact HEND.out _ _ _ K1.out K2.out rfl rfl
  · have k1 : a + 1 = (fitK k : Nat) := by rw [HK.out]; omega
    have K1 := Lib.hid k1
    clear k1
    by_cases hb : b < 0
    · have k2 : -b + 1 = (fitS s : Nat) := by rw [HS.out]; omega
      have K2 := Lib.hid k2
      clear k2
      go_wp2_with (first
        | ((with_reducible show Go.wpList _ _ _ (Go.Oper.mk _ (Go.Op.store _ _ _) _ _ _ _ :: _) _ _); refine wpList_store_row rfl 27 _ _ rfl (w.heap.size + 1) #[.int .i64 (a + 1), .int .i64 (-b + 1), .slice P n c] rfl rfl 27 #[.int .i64 0, .int .i64 0, .slice none 0 0] HB2.out.row (by kernel_rfl) rfl (by simp [Value.oneCell']) ?_))
      exact HEND.out _ _ _ K1.out K2.out rfl rfl
    · have k2 : b + 1 = (fitS s : Nat) := by rw [HS.out]; omega
      have K2 := Lib.hid k2
      clear k2
      go_wp2_with (first
        | ((with_reducible show Go.wpList _ _ _ (Go.Oper.mk _ (Go.Op.store _ _ _) _ _ _ _ :: _) _ _); refine wpList_store_row rfl 27 _ _ rfl (w.heap.size + 1) #[.int .i64 (a + 1), .int .i64 (b + 1), .slice P n c] rfl rfl 27 #[.int .i64 0, .int .i64 0, .slice none 0 0] HB2.out.row (by kernel_rfl) rfl (by simp [Value.oneCell']) ?_))
      exact HEND.out _ _ _ K1.out K2.out rfl rfl
end Go.Proofs.Ytejoofeoffehmaa

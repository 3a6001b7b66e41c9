/- Contract: the reference's Decode. -/
import Derived.Test.YtejoofeoffehmaaDec7
import Derived.Test.YtejoofeoffehmaaRs4
namespace Go.Proofs.Ytejoofeoffehmaa
open Go.RowKit

attribute [local irreducible] Blk rec0
theorem refdoor (T : Array Value) (b : Nat) (w1 : World) (v0 v1 v2 x1 x2 : Value) (ht2 : T.getD 2 undef = .pointer (some ⟨b, 0, none⟩)) (ht3 : T.getD 3 undef = x1) (ht4 : T.getD 4 undef = x2)
    (h0 : Blk w1 b 27 #[v0, v1, v2]) :
    (results Try.f18 T).run Try.prog w1 = .ok (.tuple #[.agg #[v0, v1, v2], x1, x2]) w1 := by
  have m0 : w1.cell? ⟨b, 0, none⟩ = some v0 := h0.cell_of (i := 0) rfl
  have m1 : w1.cell? ⟨b, 1, none⟩ = some v1 := h0.cell_of (i := 1) rfl
  have m2 : w1.cell? ⟨b, 2, none⟩ = some v2 := h0.cell_of (i := 2) rfl
  simp only [Array.getD_eq_getD_getElem?] at ht2 ht3 ht4
  simp [results, Try.results18, go_sem, asAddr, m0, m1, m2, ht2, ht3, ht4]

/-- The end with an error. -/
theorem refend (T : Array Value) (code : Nat) (ss : List Sec) (w w1 : World) (ht2 : T.getD 2 undef = .pointer (some ⟨w.heap.size, 0, none⟩)) (ht3 : T.getD 3 undef = .int .i64 0) (ht4 : T.getD 4 undef = .int .i64 code)
    (h0 : Blk w1 w.heap.size 27 rec0) (hB : Below w.heap.size w w1) (hd : dec ss = ⟨code, 0, 0, [], 0⟩) :
    bodyPost Try.prog Try.f18 (DecPost ss w) .ret { tmps := T, defers := [] } w1 := by
  rw [rec0_eq] at h0
  refine bodyPost_ret (refdoor T _ w1 _ _ _ _ _ ht2 ht3 ht4 h0) rfl ?_
  exact ⟨none, 0, by rw [hd]; rfl, by rw [hd]; exact Own.nil_ _ _ _ _, hB⟩

attribute [local irreducible] secCells sec0
set_option maxRecDepth 100000 in
set_option maxHeartbeats 400000 in
theorem refdecode_nil (A : Option Addr) (c : Nat) (w : World) :
    Calls Try.prog 18 #[.slice A 0 c] w (DecPost [] w) := by
  obtain ⟨W, hW⟩ : ∃ W, w.alloc (.cells rec0 27) = W := ⟨_, rfl⟩
  have hB0 : Below w.heap.size w W := by rw [← hW]; exact (Below.refl _ w).alloc (Nat.le_refl _) _
  have hblk : Blk W w.heap.size 27 rec0 := by rw [← hW]; exact Blk.new _ _ _
  have HBLK := Lib.hid hblk
  clear hblk
  have hz := zeroRec
  go_enter Try.func18, Try.ntmps18
  go_wp2_with (first
    | ((with_reducible show Go.wpList _ _ _ (Go.Oper.mk _ (Go.Op.store _ _ _) _ _ _ _ :: _) _ _); refine wpList_store_row rfl 27 _ _ rfl w.heap.size rec0 rfl rfl 27 rec0 HBLK.out.row rec0_info rfl rec0_all ?_))
  refine refend _ 10 [] w _ rfl rfl rfl (HBLK.out.setRow_ _) (below_setRow hB0 (Nat.le_refl _) _) (by simp [dec, begErr])
end Go.Proofs.Ytejoofeoffehmaa

/- Contracts: demand, and the deferred closure of Decode. -/
import Derived.Test.YtejoofeoffehmaaRec5
import Derived.Defers
import Derived.Recover
import Derived.WalkSmall
import Derived.Deep.Cut
namespace Go.Proofs.Ytejoofeoffehmaa
open Go.RowKit

/-- The panic of a reader. -/
def failV (c : Int) : Value := .iface 65 (.agg #[.int .i64 c])
theorem demand_ok (c : Int) (w : World) : Calls Try.prog 37 #[.bool true, .int .i64 c] w fun e w' => e = .returned (.tuple #[]) ∧ w = w' := by
  go_enter Try.func37, Try.ntmps37
  go_wp2_with fail
  go_end0
  exact ⟨rfl, rfl⟩
theorem demand_bad (c : Int) (w : World) : Calls Try.prog 37 #[.bool false, .int .i64 c] w fun e w' => e = .panicked [{ v := failV c, recovered := false }] ∧ w = w' := by
  go_enter Try.func37, Try.ntmps37
  go_wp2_with fail
  exact ⟨rfl, rfl, rfl⟩

def rec0 : Array Value := #[.int .i64 0, .int .i64 0, .slice none 0 0]
theorem rec0_size : rec0.size = 3 := rfl
theorem rec0_all : rec0.all (·.oneCell') = true := by simp [rec0, Value.oneCell']
theorem run_assert (c : Int) (w : World) : (Instr.typeAssert (.iface 65 (.agg #[.int .i64 c])) 20 65 true).run Try.prog w = .ok (.tuple #[.agg #[.int .i64 c], .bool true]) w := by
  simp [Instr.typeAssert, run_underlying Try.underlying65]
theorem rec0_info : (Try.prog.info? 27).map (·.size) = some rec0.size := by kernel_rfl
theorem zeroRec (w : World) : (zeroValue 27).run Try.prog w = .ok (.agg rec0) w := by kernel_rfl
attribute [local irreducible] Blk rec0
set_option maxHeartbeats 200000 in
theorem catch_panicking (b0 b1 b2 B : Nat) (c : Int) (o0 : Array Value) (ho : o0.size = 3) (x1 x2 : Value) (w : World) (h0 : Blk w b0 27 o0) (h1 : Blk w b1 3 #[x1]) (h2 : Blk w b2 29 #[x2])
    (h01 : b0 ≠ b1) (h02 : b0 ≠ b2) (h12 : b1 ≠ b2) (hB0 : B ≤ b0) (hB1 : B ≤ b1) (hB2 : B ≤ b2) :
    CallsD Try.prog 29 #[.pointer (some ⟨b0, 0, none⟩), .pointer (some ⟨b1, 0, none⟩), .pointer (some ⟨b2, 0, none⟩)] (.panicking [{ v := failV c, recovered := false }]) w fun e u' w' =>
      e = .returned (.tuple #[]) ∧ u' = .panicking [{ v := failV c, recovered := true }] ∧ Blk w' b0 27 rec0 ∧ Blk w' b1 3 #[.int .i64 0] ∧ Blk w' b2 29 #[.int .i64 c] ∧ Below B w w' := by
  unfold failV
  refine callsD_of_wpS Try.func29 rfl fun c₀ cs hu => ?_
  apply wpS_seq
  apply wpS_region
  simp [wpOpsS, go_sem, recoverD, hu, Try.ntmps29, Exit.thenS]
  apply wpS_seq
  apply wpS_region
  simp [wpOpsS, go_sem, Exit.thenS]
  refine wpS_cond (t := true) (by simp [Act.eval, Array.replicate]) ?_
  simp only [if_true]
  refine wpS_of_wp ?_
  change Code.wp _ _ _ { tmps := #[.pointer (some ⟨b0, 0, none⟩), .pointer (some ⟨b1, 0, none⟩), .pointer (some ⟨b2, 0, none⟩), .iface 65 (.agg #[.int .i64 c]), undef, undef, .iface 65 (.agg #[.int .i64 c]), .iface 65 (.agg #[.int .i64 c]), .bool true, undef, undef, undef, undef, undef, undef, undef, undef, undef], defers := [] } _
  have H0 := Lib.hid h0
  have r1 := (h1.setRow_far h01.symm rec0)
  have r2 := (h2.setRow_far h02.symm rec0)
  have R0 := Lib.hid (h0.setRow_ rec0)
  obtain ⟨w1, hw1⟩ : ∃ w1, w.setRow b0 rec0 = w1 := ⟨_, rfl⟩
  have HB1 : Below B w w1 := by rw [← hw1]; exact below_setRow (Below.refl _ _) hB0 _
  rw [hw1] at r1 r2 R0
  have HW1 := Lib.hid hw1
  clear hw1 h0 h1 h2
  have k10 : w1.cell? ⟨b1, 0, none⟩ = some x1 := r1.cell_of (i := 0) rfl
  have k20 : w1.cell? ⟨b2, 0, none⟩ = some x2 := r2.cell_of (i := 0) rfl
  have f1 := r1.frozen 0
  have f2 := r2.frozen 0
  have R1 := Lib.hid r1
  have R2 := Lib.hid r2
  have l0 := R0.out.lt
  have l1 := r1.lt
  have l2 := r2.lt
  clear r1 r2
  have hz := zeroRec
  have hta := run_assert c
  go_upto_region 4 with (first
    | ((with_reducible show Go.wpList _ _ _ (Go.Oper.mk _ (Go.Op.store _ _ _) _ _ _ _ :: _) _ _); refine wpList_store_row rfl 27 _ _ rfl b0 rec0 rfl rfl 27 o0 H0.out.row rec0_info (by rw [ho, rec0_size]) rec0_all ?_; rw [HW1.out]))
  have e0 : Blk (((w1.setCell ⟨b1, 0, none⟩ (.int .i64 0)).setCell ⟨b2, 0, none⟩ (.int .i64 3)).alloc (.cells #[.int .i64 c] 65)) b0 27 rec0 := ((R0.out.far (p := ⟨b1, 0, none⟩) h01 _).far (p := ⟨b2, 0, none⟩) h02 _).alloc _
  have e1 : Blk (((w1.setCell ⟨b1, 0, none⟩ (.int .i64 0)).setCell ⟨b2, 0, none⟩ (.int .i64 3)).alloc (.cells #[.int .i64 c] 65)) b1 3 #[.int .i64 0] := ((R1.out.set_ 0 _).far (p := ⟨b2, 0, none⟩) h12 _).alloc _
  have e2 : Blk (((w1.setCell ⟨b1, 0, none⟩ (.int .i64 0)).setCell ⟨b2, 0, none⟩ (.int .i64 3)).alloc (.cells #[.int .i64 c] 65)) b2 29 #[.int .i64 3] := ((R2.out.far (p := ⟨b1, 0, none⟩) h12.symm _).set_ 0 _).alloc _
  have e3 : Blk (((w1.setCell ⟨b1, 0, none⟩ (.int .i64 0)).setCell ⟨b2, 0, none⟩ (.int .i64 3)).alloc (.cells #[.int .i64 c] 65)) w1.heap.size 65 #[.int .i64 c] := by
    have := Blk.new ((w1.setCell ⟨b1, 0, none⟩ (.int .i64 0)).setCell ⟨b2, 0, none⟩ (.int .i64 3)) 65 #[.int .i64 c]
    simpa using this
  have hB2' : Below B w (((w1.setCell ⟨b1, 0, none⟩ (.int .i64 0)).setCell ⟨b2, 0, none⟩ (.int .i64 3)).alloc (.cells #[.int .i64 c] 65)) :=
    ((HB1.setCell (p := ⟨b1, 0, none⟩) hB1 _).setCell (p := ⟨b2, 0, none⟩) hB2 _).alloc (by simp; omega) _
  generalize ((w1.setCell ⟨b1, 0, none⟩ (.int .i64 0)).setCell ⟨b2, 0, none⟩ (.int .i64 3)).alloc (.cells #[.int .i64 c] 65) = w2 at e0 e1 e2 e3 hB2' ⊢
  have c2 : w2.cell? ⟨b2, 0, none⟩ = some (.int .i64 3) := e2.cell_of (i := 0) rfl
  have g2 := e2.frozen 0
  have c3 : w2.cell? ⟨w1.heap.size, 0, none⟩ = some (.int .i64 c) := e3.cell_of (i := 0) rfl
  have hm := hu
  have HU := Lib.hid hu
  have E0 := Lib.hid (e0.far (p := ⟨b2, 0, none⟩) h02 (.int .i64 c))
  have E1 := Lib.hid (e1.far (p := ⟨b2, 0, none⟩) h12 (.int .i64 c))
  have E2 := Lib.hid (e2.set_ 0 (.int .i64 c))
  clear hu hm e0 e1 e2 e3 hta hz k10 k20 f1 f2
  go_wp2_with fail
  simp [bodyPostS, results, Try.results29]
  exact ⟨E0.out, E1.out, E2.out, hB2'.setCell (p := ⟨b2, 0, none⟩) hB2 _⟩

theorem catch_idle (p0 p1 p2 : Value) (w : World) :
    CallsD Try.prog 29 #[p0, p1, p2] .returning w fun e u' w' => e = .returned (.tuple #[]) ∧ u' = .returning ∧ w' = w := by
  refine callsD_of_wpS Try.func29 rfl fun c₀ cs hu => ?_
  apply wpS_seq
  apply wpS_region
  simp [wpOpsS, go_sem, recoverD, hu, Try.ntmps29, Exit.thenS]
  apply wpS_seq
  apply wpS_region
  simp [wpOpsS, go_sem, Exit.thenS]
  refine wpS_cond (t := false) (by simp [Act.eval, Array.replicate]) ?_
  simp only [Bool.false_eq_true, if_false]
  refine wpS_of_wp (wp_skip ?_)
  cases c₀
  simp_all [bodyPostS, results, Try.results29]
end Go.Proofs.Ytejoofeoffehmaa

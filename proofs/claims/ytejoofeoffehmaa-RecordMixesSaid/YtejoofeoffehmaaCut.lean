/- The rest of a slice, as one step. -/
import Derived.Test.YtejoofeoffehmaaApp
namespace Go.Proofs.Ytejoofeoffehmaa
open Go.RowKit

theorem wpList_cut {P : Program} (w : World) {ops : Array Oper} {rest : List Oper} {o : Oper} {a : Act} {Q : Exit → Act → World → Prop} (hgd : o.guard = none) (s y : Operand) (t : TypeId)
    (ho : o.op = .slice t s (some y) none none) (A : Option Addr) (L c m : Nat) (hs : a.eval s = .slice A L c) (hy : a.eval y = .int .i64 (m : Int)) (hm : m ≤ L) (ht : P.underlying t = some (.slice (P.elem t))) (size : Nat) (hz : (sizeOf (P.elem t)).run P w = .ok size w)
    (h : wpList P ops Q rest (a.put o.dst (.slice (cutAt A c m size) (L - m) (c - m))) w) : wpList P ops Q (o :: rest) a w := by
  refine wpList_plain hgd fun _ hK => ?_
  have e : (Instr.sliceAt t (.slice A L c) (some (.int .i64 (m : Int))) none none).run P w = .ok (.slice (cutAt A c m size) (L - m) (c - m)) w := by
    rw [run_sliceAt_slice (h := ht), run_slice_l (ht := ht) (h0 := by omega) (h1 := by omega), hz]
    rfl
  unfold Oper.wp execOp
  simp only [ho, Option.map_some, Option.map_none, hs, hy, e, Sem.run_bind, Sem.run_pure, Result.andThen_ok]
  exact hK _ _ h
end Go.Proofs.Ytejoofeoffehmaa

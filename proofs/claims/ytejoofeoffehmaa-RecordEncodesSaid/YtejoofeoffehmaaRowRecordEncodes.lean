/- The row of RecordEncodes: for every input the law returns true, and what it was given reads as it did. -/
import Derived.Test.YtejoofeoffehmaaLR1
import Derived.Test.YtejoofeoffehmaaOpen
import Derived.Lib.SmallJoins
namespace Go.Proofs.Ytejoofeoffehmaa.recordEncodes
open Go.ChangeShapes Go.WideShapes Go.ChangeAt Go.RowKit
set_option linter.unusedVariables false

theorem own : ownKnob Try.prog.godebug = none := by kernel_rfl
theorem laidOut : laidOutB Try.prog = true := by kernel_rfl

theorem cellsRec : Try.prog.cellsOf 27 = 3 := by kernel_rfl
set_option maxRecDepth 100000 in
theorem lifted (os : Os) (started : os.Started) (H : Type) (enc : TypeId × Value → H) :
    ReturnsInHanded {} Try.checked os 4 .any (Rows.recordEncodesSpec.pre6 enc Try.prog Try.f4 Rows.recordEncodesRow.domain false) (Rows.recordEncodesSpec.post enc Try.prog Try.f4 false true false false) := by
  refine returnsInHanded_of_change (C := Try.checked) own started (by kernel_rfl) Try.func4
    (ChangeSpec.witness6 (enc := enc) (C := Try.checked) false ⟨#[], #[.agg #[.int .i64 0, .int .i64 0, .slice none 0 0]], []⟩ 8 (by kernel_rfl) (by kernel_rfl) (by kernel_rfl) (by kernel_rfl)) ?_
  intro W base args ds gs before hval0 hW hcnd _
  have hval : ∀ (j : Nat) t v, Try.f4.params[j]? = some t → args[j]? = some v → Value.okWide Try.prog W .any base t v := hval0
  have hW' := hW
  obtain ⟨p, q, hA0, hV, rfl, hfz, hnd⟩ := hW
  have hA : DataW.TrodAll enc Try.prog W 0 (fun _ => true) true Try.f4.params.toList args.toList ds p := hA0
  rw [Try.params4] at hA hval
  obtain ⟨v0, vs0, d0, ds0, p0, q0, hargs, rfl, rfl, h0, r0⟩ := trodAll_cons hA
  obtain ⟨rfl, rfl, rfl⟩ := trodAll_nil r0
  obtain rfl : args = #[v0] := by cases args; simp_all
  obtain ⟨rfl, rfl⟩ := trodVars_none hV
  have k0 := h0
  have lt0 : ∀ x ∈ p0, x.block < W.heap.size := by obtain ⟨m, hm⟩ := k0; exact DataW.trod_lt m _ _ _ hm
  obtain ⟨c0_0, c0_1, c0_2, y0_0, y0_1, y0_2, mm0, rfl, _, _, t0_0, t0_1, t0_2⟩ := Go.Joins.open_agg3 Try.underlying27 (by kernel_rfl) cellsRec (hval 0 27 v0 rfl rfl) h0
  obtain ⟨kk0, hk0_, _, wk0⟩ := DataW.trod_int Try.underlying3 t0_0
  obtain ⟨ss0, hs0_, _, ws0⟩ := DataW.trod_int Try.underlying3 t0_1
  obtain ⟨A0, cap0, x0, rfl, l0, m0, R0⟩ := open_bytes Try.underlying25 Try.underlying5 (by kernel_rfl) t0_2
  cases hk0_
  cases hs0_
  clear hA0 hval0
  refine (law_RecordEncodes (w := W) kk0 (wf_i64 wk0) ss0 (wf_i64 ws0) A0 cap0 x0 l0 m0 R0).mono fun e W' ⟨he, bel⟩ => ?_
  subst he
  exact ⟨_, rfl, _, _, _, [], _, [], hW', trodAll_mk1 (shut_bool Try.underlying4 _), (trodAll_cons_mk (Below.trod laidOut (by kernel_rfl) (of_decide_eq_true (by kernel_rfl)) k0 bel lt0) trodAll_mk0), rfl, bel.frame _, fun h => by cases h⟩

theorem over : Rows.recordEncodesRow.holds Try.pinned (OpenSpec.ofChange Rows.recordEncodesSpec) :=
  OpenClaim.holds_of_wide 4 Try.f4 rfl rfl rfl rfl rfl rfl rfl ⟨rfl, rfl, rfl, rfl, rfl⟩ rfl rfl rfl rfl rfl (by kernel_rfl) Try.func4 (by kernel_rfl)
    (of_decide_eq_true (by kernel_rfl)) (by unfold Func.isWrapper; first | (rw [if_pos (by decide +kernel)]; kernel_rfl) | (rw [if_neg (by decide +kernel)]; exact ⟨rfl, rfl⟩))
    (fun os started H enc _ => lifted os started H enc)

theorem proved : Rows.RecordEncodesSaid :=
  over
#print axioms proved
end Go.Proofs.Ytejoofeoffehmaa.recordEncodes

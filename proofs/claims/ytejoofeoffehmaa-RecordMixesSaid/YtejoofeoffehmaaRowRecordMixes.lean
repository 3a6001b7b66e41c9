/- The row of RecordMixes: for every input the law returns true, and what it was given reads as it did. -/
import Derived.Test.YtejoofeoffehmaaLR4
import Derived.Test.YtejoofeoffehmaaOpen2
import Derived.Lib.SmallJoins
namespace Go.Proofs.Ytejoofeoffehmaa.recordMixes
open Go.ChangeShapes Go.WideShapes Go.ChangeAt Go.RowKit
set_option linter.unusedVariables false

theorem own : ownKnob Try.prog.godebug = none := by kernel_rfl
theorem laidOut : laidOutB Try.prog = true := by kernel_rfl

theorem cellsRec : Try.prog.cellsOf 27 = 3 := by kernel_rfl
set_option maxRecDepth 100000 in
theorem lifted (os : Os) (started : os.Started) (H : Type) (enc : TypeId × Value → H) :
    ReturnsInHanded {} Try.checked os 7 .any (Rows.recordMixesSpec.pre6 enc Try.prog Try.f7 Rows.recordMixesRow.domain false) (Rows.recordMixesSpec.post enc Try.prog Try.f7 false true false false) := by
  refine returnsInHanded_of_change (C := Try.checked) own started (by kernel_rfl) Try.func7
    (ChangeSpec.witness6 (enc := enc) (C := Try.checked) false ⟨#[], #[.agg #[.int .i64 0, .int .i64 0, .slice none 0 0], .agg #[.int .i64 0, .int .i64 0, .slice none 0 0], .slice none 0 0], []⟩ 8 (by kernel_rfl) (by kernel_rfl) (by kernel_rfl) (by kernel_rfl)) ?_
  intro W base args ds gs before hval0 hW hcnd _
  have hval : ∀ (j : Nat) t v, Try.f7.params[j]? = some t → args[j]? = some v → Value.okWide Try.prog W .any base t v := hval0
  have hW' := hW
  obtain ⟨p, q, hA0, hV, rfl, hfz, hnd⟩ := hW
  have hA : DataW.TrodAll enc Try.prog W 0 (fun _ => true) true Try.f7.params.toList args.toList ds p := hA0
  rw [Try.params7] at hA hval
  obtain ⟨v0, vs0, d0, ds0, p0, q0, hargs, rfl, rfl, h0, r0⟩ := trodAll_cons hA
  obtain ⟨v1, vs1, d1, ds1, p1, q1, rfl, rfl, rfl, h1, r1⟩ := trodAll_cons r0
  obtain ⟨v2, vs2, d2, ds2, p2, q2, rfl, rfl, rfl, h2, r2⟩ := trodAll_cons r1
  obtain ⟨rfl, rfl, rfl⟩ := trodAll_nil r2
  obtain rfl : args = #[v0, v1, v2] := by cases args; simp_all
  obtain ⟨rfl, rfl⟩ := trodVars_none hV
  have k0 := h0
  have lt0 : ∀ x ∈ p0, x.block < W.heap.size := by obtain ⟨m, hm⟩ := k0; exact DataW.trod_lt m _ _ _ hm
  have k1 := h1
  have lt1 : ∀ x ∈ p1, x.block < W.heap.size := by obtain ⟨m, hm⟩ := k1; exact DataW.trod_lt m _ _ _ hm
  have k2 := h2
  have lt2 : ∀ x ∈ p2, x.block < W.heap.size := by obtain ⟨m, hm⟩ := k2; exact DataW.trod_lt m _ _ _ hm
  obtain ⟨c0_0, c0_1, c0_2, y0_0, y0_1, y0_2, mm0, rfl, _, _, t0_0, t0_1, t0_2⟩ := Go.Joins.open_agg3 Try.underlying27 (by kernel_rfl) cellsRec (hval 0 27 v0 rfl rfl) h0
  obtain ⟨kk0, hk0_, _, wk0⟩ := DataW.trod_int Try.underlying3 t0_0
  obtain ⟨ss0, hs0_, _, ws0⟩ := DataW.trod_int Try.underlying3 t0_1
  obtain ⟨A0, cap0, x0, rfl, l0, m0, R0⟩ := open_bytes Try.underlying25 Try.underlying5 (by kernel_rfl) t0_2
  cases hk0_
  cases hs0_
  obtain ⟨c1_0, c1_1, c1_2, y1_0, y1_1, y1_2, mm1, rfl, _, _, t1_0, t1_1, t1_2⟩ := Go.Joins.open_agg3 Try.underlying27 (by kernel_rfl) cellsRec (hval 1 27 v1 rfl rfl) h1
  obtain ⟨kk1, hk1_, _, wk1⟩ := DataW.trod_int Try.underlying3 t1_0
  obtain ⟨ss1, hs1_, _, ws1⟩ := DataW.trod_int Try.underlying3 t1_1
  obtain ⟨A1, cap1, x1, rfl, l1, m1, R1⟩ := open_bytes Try.underlying25 Try.underlying5 (by kernel_rfl) t1_2
  cases hk1_
  cases hs1_
  obtain ⟨a2, len2, cap2, rfl⟩ := okWide_slice Try.underlying45 (hval 2 45 v2 rfl rfl)
  obtain ⟨f2, hf2⟩ := h2
  obtain ⟨A2, c2, x2, e2, l2, m2, R2⟩ := open_bools Try.underlying45 Try.underlying4 (by kernel_rfl) (by simpa [Value.cells] using hf2)
  cases e2
  clear hA0 hval0
  refine (law_RecordMixes (w := W) kk0 (wf_i64 wk0) ss0 (wf_i64 ws0) A0 cap0 x0 l0 m0 R0 kk1 (wf_i64 wk1) ss1 (wf_i64 ws1) A1 cap1 x1 l1 m1 R1 a2 cap2 x2 l2 m2 R2).mono fun e W' ⟨he, bel⟩ => ?_
  subst he
  exact ⟨_, rfl, _, _, _, [], _, [], hW', trodAll_mk1 (shut_bool Try.underlying4 _), (trodAll_cons_mk (Below.trod laidOut (by kernel_rfl) (of_decide_eq_true (by kernel_rfl)) k0 bel lt0) (trodAll_cons_mk (Below.trod laidOut (by kernel_rfl) (of_decide_eq_true (by kernel_rfl)) k1 bel lt1) (trodAll_cons_mk (Below.trod laidOut (by kernel_rfl) (of_decide_eq_true (by kernel_rfl)) k2 bel lt2) trodAll_mk0))), rfl, bel.frame _, fun h => by cases h⟩

theorem over : Rows.recordMixesRow.holds Try.pinned (OpenSpec.ofChange Rows.recordMixesSpec) :=
  OpenClaim.holds_of_wide 7 Try.f7 rfl rfl rfl rfl rfl rfl rfl ⟨rfl, rfl, rfl, rfl, rfl⟩ rfl rfl rfl rfl rfl (by kernel_rfl) Try.func7 (by kernel_rfl)
    (of_decide_eq_true (by kernel_rfl)) (by unfold Func.isWrapper; first | (rw [if_pos (by decide +kernel)]; kernel_rfl) | (rw [if_neg (by decide +kernel)]; exact ⟨rfl, rfl⟩))
    (fun os started H enc _ => lifted os started H enc)

theorem proved : Rows.RecordMixesSaid :=
  over
#print axioms proved
end Go.Proofs.Ytejoofeoffehmaa.recordMixes

/- The row of ChecksumDigests: for every input the law returns true, and what it was given reads as it did. -/
import Derived.Test.YtphackphganglaaL4g
import Derived.Test.YtphackphganglaaOpen
import Derived.Lib.SmallJoins
namespace Go.Proofs.Ytphackphganglaa.checksumDigests
open Go.ChangeShapes Go.WideShapes Go.ChangeAt Go.RowKit
set_option linter.unusedVariables false

theorem own : ownKnob Try.prog.godebug = none := by kernel_rfl
theorem laidOut : laidOutB Try.prog = true := by kernel_rfl

theorem cellsData : Try.prog.cellsOf 39 = 4 := by kernel_rfl
set_option maxRecDepth 100000 in
theorem lifted (os : Os) (started : os.Started) (H : Type) (enc : TypeId × Value → H) :
    ReturnsInHanded {} Try.checked os 8 .any (Rows.checksumDigestsSpec.pre6 enc Try.prog Try.f8 Rows.checksumDigestsRow.domain false) (Rows.checksumDigestsSpec.post enc Try.prog Try.f8 false true false false) := by
  refine returnsInHanded_of_change (C := Try.checked) own started (by kernel_rfl) Try.func8
    (ChangeSpec.witness6 (enc := enc) (C := Try.checked) false ⟨#[], #[.agg #[.slice none 0 0, .slice none 0 0, .int .u64 0, .int .u64 0]], []⟩ 8 (by kernel_rfl) (by kernel_rfl) (by kernel_rfl) (by kernel_rfl)) ?_
  intro W base args ds gs before hval0 hW hcnd _
  have hval : ∀ (j : Nat) t v, Try.f8.params[j]? = some t → args[j]? = some v → Value.okWide Try.prog W .any base t v := hval0
  have hW' := hW
  obtain ⟨p, q, hA0, hV, rfl, hfz, hnd⟩ := hW
  have hA : DataW.TrodAll enc Try.prog W 0 (fun _ => true) true Try.f8.params.toList args.toList ds p := hA0
  rw [Try.params8] at hA hval
  obtain ⟨v0, vs0, d0, ds0, p0, q0, hargs, rfl, rfl, h0, r0⟩ := trodAll_cons hA
  obtain ⟨rfl, rfl, rfl⟩ := trodAll_nil r0
  obtain rfl : args = #[v0] := by cases args; simp_all
  obtain ⟨rfl, rfl⟩ := trodVars_none hV
  have k0 := h0
  have lt0 : ∀ x ∈ p0, x.block < W.heap.size := by obtain ⟨m, hm⟩ := k0; exact DataW.trod_lt m _ _ _ hm
  obtain ⟨c0, c1, c2, c3, y0, y1, y2, y3, m, rfl, _, _, t0, t1, t2, t3⟩ := Go.Joins.open_agg4 Try.underlying39 (by kernel_rfl) cellsData (hval 0 39 v0 rfl rfl) h0
  obtain ⟨A0, cap0, x0, rfl, l0, m0, R0⟩ := open_bytes Try.underlying26 Try.underlying5 (by kernel_rfl) t0
  obtain ⟨A1, cap1, x1, rfl, l1, m1, R1⟩ := open_secs Try.underlying37 Try.underlying44 Try.underlying5 (by kernel_rfl) (by kernel_rfl) t1
  obtain ⟨n2, hn2, _, w2⟩ := DataW.trod_int Try.underlying34 t2
  obtain ⟨n3, hn3, _, w3⟩ := DataW.trod_int Try.underlying34 t3
  cases hn2
  cases hn3
  obtain ⟨x2, rfl⟩ := wf_u64 w2
  obtain ⟨x3, rfl⟩ := wf_u64 w3
  clear hA0 hval0
  refine (law_ChecksumDigests (w := W) A0 cap0 x0 l0 m0 R0 A1 cap1 x1 l1 m1 R1 x2 x3).mono fun e W' ⟨he, bel⟩ => ?_
  subst he
  exact ⟨_, rfl, _, _, _, [], _, [], hW', trodAll_mk1 (shut_bool Try.underlying4 _), (trodAll_cons_mk (Below.trod laidOut (by kernel_rfl) (of_decide_eq_true (by kernel_rfl)) k0 bel lt0) trodAll_mk0), rfl, bel.frame _, fun h => by cases h⟩

theorem over : Rows.checksumDigestsRow.holds Try.pinned (OpenSpec.ofChange Rows.checksumDigestsSpec) :=
  OpenClaim.holds_of_wide 8 Try.f8 rfl rfl rfl rfl rfl rfl rfl ⟨rfl, rfl, rfl, rfl, rfl⟩ rfl rfl rfl rfl rfl (by kernel_rfl) Try.func8 (by kernel_rfl)
    (of_decide_eq_true (by kernel_rfl)) (by unfold Func.isWrapper; first | (rw [if_pos (by decide +kernel)]; kernel_rfl) | (rw [if_neg (by decide +kernel)]; exact ⟨rfl, rfl⟩))
    (fun os started H enc _ => lifted os started H enc)

theorem proved : Rows.ChecksumDigestsSaid :=
  over
#print axioms proved
end Go.Proofs.Ytphackphganglaa.checksumDigests

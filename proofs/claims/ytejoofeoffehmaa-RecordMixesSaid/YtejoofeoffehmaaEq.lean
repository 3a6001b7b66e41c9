/- Arrays of bytes compared. -/
import Derived.Test.YtejoofeoffehmaaMem
import Derived.ChangeKeysEq
namespace Go.Proofs.Ytejoofeoffehmaa
open Go.RowKit

section
variable {P : Program}
theorem part_byte {e : TypeId} (hag : ∀ w, (isAgg e).run P w = .ok false w) (xs : List UInt8) (i : Nat) (hi : i < xs.length) (w : World) : (part e (xs.map u8v).toArray i).run P w = .ok (u8v xs[i]) w := by
  have h : (xs.map u8v).toArray[i]? = some (u8v xs[i]) := by simp [hi]
  simp [part, hag, h]
theorem eqItems_bytes {e : TypeId} (he : P.underlying e = some (.int .u8)) (hag : ∀ w, (isAgg e).run P w = .ok false w) (d : Nat) (xs ys : List UInt8) (w : World) : ∀ is : List Nat, (∀ i ∈ is, i < xs.length ∧ i < ys.length) →
    (Op.eqItems (d + 1) e 1 (xs.map u8v).toArray (ys.map u8v).toArray is).run P w = .ok (is.all fun i => xs[i]? == ys[i]?) w := by
  intro is
  induction is with
  | nil => intro _; rfl
  | cons i is ih =>
    intro h
    obtain ⟨h1, h2⟩ := h i (by simp)
    have ih' := ih (fun j hj => h j (by simp [hj]))
    unfold Op.eqItems
    rw [Nat.mul_one]
    simp only [Sem.run_bind, part_byte hag xs i h1, part_byte hag ys i h2, Result.andThen_ok, u8v, run_equalIn_int w d e .u8 .u8 _ _ he]
    have hb : (((xs[i]).toNat : Int) == ((ys[i]).toNat : Int)) = (xs[i]? == ys[i]?) := by
      rw [List.getElem?_eq_getElem h1, List.getElem?_eq_getElem h2, Bool.eq_iff_iff]
      simp only [beq_iff_eq, Option.some.injEq, ← UInt8.toNat_inj]
      omega
    rw [hb, List.all_cons]
    cases xs[i]? == ys[i]?
    · simp
    · simp only [Bool.not_true, Bool.false_eq_true, if_false, Bool.true_and]
      exact ih'
theorem run_eq_bytes {t e : TypeId} {n : Nat} {i : TypeInfo} (hu : P.underlying t = some (.array n e)) (hi : P.info? e = some i) (hc : P.cellsOf e = 1) (he : P.underlying e = some (.int .u8)) (hag : ∀ w, (isAgg e).run P w = .ok false w)
    (d : Nat) (xs ys : List UInt8) (hx : xs.length = n) (hy : ys.length = n) (w : World) :
    (Op.equalIn (d + 2) t (.agg (xs.map u8v).toArray) (.agg (ys.map u8v).toArray)).run P w = .ok (decide (xs = ys)) w := by
  rw [run_equalIn_array w (d + 1) _ _ hu hi, hc, eqItems_bytes he hag d xs ys w _ (fun j hj => by simp at hj; omega)]
  congr 1
  rw [Bool.eq_iff_iff, List.all_eq_true, decide_eq_true_iff]
  constructor
  · intro h
    apply List.ext_getElem?
    intro j
    by_cases hj : j < n
    · exact eq_of_beq (h j (by simpa using hj))
    · rw [List.getElem?_eq_none (by omega), List.getElem?_eq_none (by omega)]
  · rintro rfl j _
    exact BEq.rfl
end
end Go.Proofs.Ytejoofeoffehmaa

/- The plain law of Scan on consecutive records. -/
import Derived.Test.YtejoofeoffehmaaScan
import Derived.Test.YtejoofeoffehmaaRt
namespace Go.Proofs.Ytejoofeoffehmaa
open Go.RowKit

def encAll : Nat → List (Nat × List UInt8) → List Sec
  | _, [] => []
  | q, (k, p) :: r => encSecs k q p ++ encAll (q + 1) r
def recsOf : Nat → List (Nat × List UInt8) → List Rc
  | _, [] => []
  | q, (k, p) :: r => ⟨k, q, p⟩ :: recsOf (q + 1) r
theorem recsOf_length (q : Nat) (l : List (Nat × List UInt8)) : (recsOf q l).length = l.length := by
  induction l generalizing q with
  | nil => rfl
  | cons x l ih => obtain ⟨k, p⟩ := x; simp [recsOf, ih]
theorem encAll_snoc (q : Nat) (l : List (Nat × List UInt8)) (k : Nat) (p : List UInt8) : encAll q (l ++ [(k, p)]) = encAll q l ++ encSecs k (q + l.length) p := by
  induction l generalizing q with
  | nil => simp [encAll]
  | cons x l ih => obtain ⟨k', p'⟩ := x; simp only [List.cons_append, encAll, ih, List.length_cons, List.append_assoc]; rw [show q + 1 + l.length = q + (l.length + 1) by omega]
theorem recsOf_snoc (q : Nat) (l : List (Nat × List UInt8)) (k : Nat) (p : List UInt8) : recsOf q (l ++ [(k, p)]) = recsOf q l ++ [⟨k, (q + l.length : Nat), p⟩] := by
  induction l generalizing q with
  | nil => simp [recsOf]
  | cons x l ih => obtain ⟨k', p'⟩ := x; simp only [List.cons_append, recsOf, ih, List.length_cons]; rw [show q + 1 + l.length = q + (l.length + 1) by omega]
/-- Records that are possible. -/
def Fit (l : List (Nat × List UInt8)) : Prop := ∀ x ∈ l, 1 ≤ x.1 ∧ x.1 ≤ 255 ∧ x.2.length ≤ 4096
/-- What stands behind: nothing, or a record with a greater number than q. -/
def Behind (tail : List Sec) (q : Nat) : Prop := tail = [] ∨ ∃ k q' p more, 1 ≤ k ∧ k ≤ 255 ∧ q < q' ∧ q' ≤ 4294967295 ∧ p.length ≤ 4096 ∧ tail = encSecs k q' p ++ more
theorem Behind.stop {tail : List Sec} {q : Nat} (h : Behind tail q) (a : Int) (ha : a ≤ q) : (dec tail).err ≠ 0 ∨ ((dec tail).seq : Int) ≠ a := by
  rcases h with rfl | ⟨k, q', p, more, h1, h2, h3, h4, h5, rfl⟩
  · left; rw [dec_beg (by decide)]; decide
  · right
    rw [dec_enc k q' p more h1 h2 (by omega) h4 h5]
    simp only
    omega
theorem scan_all (q : Nat) (l : List (Nat × List UInt8)) (tail : List Sec) (f : Nat) (hq : 1 ≤ q) (hq2 : q + l.length ≤ 4294967295) (hf : l.length < f) (hl : Fit l) (ht : Behind tail (q + l.length)) :
    scanF f (encAll q l ++ tail) q = (recsOf q l, (encAll q l).length) := by
  induction l generalizing q f with
  | nil =>
    simp only [encAll, List.nil_append, recsOf, List.length_nil, Nat.add_zero] at ht ⊢
    exact scanF_stop f tail q (.inr (ht.stop q (by omega)))
  | cons x l ih =>
    obtain ⟨k, p⟩ := x
    obtain ⟨f', rfl⟩ : ∃ f', f = f' + 1 := ⟨f - 1, by omega⟩
    have hx := hl (k, p) (by simp)
    simp only [encAll, recsOf, List.append_assoc, List.length_cons] at hq2 hf ht ⊢
    have hd := dec_enc k q p (encAll (q + 1) l ++ tail) hx.1 hx.2.1 hq (by omega) hx.2.2
    have hs := scanF_step f' (encSecs k q p ++ (encAll (q + 1) l ++ tail)) q (by omega) (by rw [hd]) (by rw [hd])
    rw [hd] at hs
    simp only at hs
    rw [← encSecs_len k q p, List.drop_left' rfl] at hs
    have hi := ih (q + 1) f' (by omega) (by omega) (by omega) (fun y hy => hl y (by simp [hy])) (by rw [show q + 1 + l.length = q + (l.length + 1) by omega]; exact ht)
    rw [show ((q : Int) + 1) = ((q + 1 : Nat) : Int) by omega, hi] at hs
    rw [hs, List.length_append]
theorem scan_none (q : Nat) (l : List (Nat × List UInt8)) (tail : List Sec) (f : Nat) (a : Int) (ha : a < q) (hq : 1 ≤ q) (hq2 : q + l.length ≤ 4294967295) (hl : Fit l) (ht : Behind tail (q + l.length)) :
    scanF f (encAll q l ++ tail) a = ([], 0) := by
  apply scanF_stop
  right
  cases l with
  | nil => exact ht.stop a (by simp; omega)
  | cons x l =>
    obtain ⟨k, p⟩ := x
    have hx := hl (k, p) (by simp)
    right
    simp only [encAll, List.append_assoc]
    rw [dec_enc k q p _ hx.1 hx.2.1 hq (by simp at hq2; omega) hx.2.2]
    simp only
    omega
theorem encAll_long (q : Nat) (l : List (Nat × List UInt8)) : l.length ≤ (encAll q l).length := by
  induction l generalizing q with
  | nil => simp [encAll]
  | cons x l ih =>
    obtain ⟨k, p⟩ := x
    have := ih (q + 1)
    have h2 := encSecs_len k q p
    have h3 := sizeOfRec_pos p.length
    simp only [encAll, List.length_append, List.length_cons]
    omega
end Go.Proofs.Ytejoofeoffehmaa

/- The plain laws of a record: mixed sectors. -/
import Derived.Test.YtejoofeoffehmaaRt
namespace Go.Proofs.Ytejoofeoffehmaa
open Go.RowKit

theorem encSecs_num (k q : Nat) (p : List UInt8) (hq : q ≤ 4294967295) (t : Sec) (h : t ∈ encSecs k q p) : secNum t = q := by
  rw [encSecs_full] at h
  have := List.all_eq_true.1 (secsOf_all q (recFull k p) (sizeOfRec p.length) (by omega)) t h
  simpa using this
/-- What Decode accepts of a list whose first sector is a record's, and whose others are the record's or bear other numbers. -/
theorem dec_mix (k q : Nat) (p : List UInt8) (X : List Sec) (hk1 : 1 ≤ k) (hk2 : k ≤ 255) (hq1 : 1 ≤ q) (hq2 : q ≤ 4294967295) (hp : p.length ≤ 4096)
    (h0 : X[0]? = (encSecs k q p)[0]?) (hmix : ∀ (i : Nat) (t : Sec), i < sizeOfRec p.length → X[i]? = some t → (encSecs k q p)[i]? = some t ∨ secNum t ≠ q) :
    (dec X).err ≠ 0 ∨ dec X = ⟨0, k, q, p, sizeOfRec p.length⟩ := by
  by_cases hb : begErr X = 0
  · right
    have hl := encSecs_len k q p
    have hz := sizeOfRec_pos p.length
    have hs0 : (encSecs k q p)[0]? = some (encSec q (recFull k p) 0) := by
      rw [encSecs_full, secsOf, List.getElem?_map, List.getElem?_range (by omega)]; rfl
    rw [hs0] at h0
    cases X with
    | nil => simp at h0
    | cons s rest =>
      obtain rfl : s = encSec q (recFull k p) 0 := by simpa using h0
      have hlen := encSec_len q (recFull k p) (by rw [recFull_length]; omega)
      rw [recFull_n k p hp] at hlen
      obtain ⟨z1, z2, z3, z4⟩ := begErr_zero hb
      rw [hlen] at z3 z4
      rw [encSec_num q _ 0 (by omega)] at z4
      have ht : (encSec q (recFull k p) 0 :: rest).take (sizeOfRec p.length) = encSecs k q p := by
        apply List.ext_getElem?
        intro i
        rw [List.getElem?_take]
        by_cases hi : i < sizeOfRec p.length
        · rw [if_pos hi]
          have hx : (encSec q (recFull k p) 0 :: rest)[i]? = some ((encSec q (recFull k p) 0 :: rest)[i]'(by omega)) := List.getElem?_eq_getElem _
          rcases hmix i _ hi hx with h | h
          · rw [hx, h]
          · exfalso
            apply h
            have hm : (encSec q (recFull k p) 0 :: rest)[i]'(by omega) ∈ (encSec q (recFull k p) 0 :: rest).take (sizeOfRec p.length) := by
              rw [List.mem_take_iff_getElem]
              exact ⟨i, by omega, rfl⟩
            have := List.all_eq_true.1 z4 _ hm
            simpa using this
        · rw [if_neg hi, List.getElem?_eq_none (by omega)]
      rw [← List.take_append_drop (sizeOfRec p.length) (encSec q (recFull k p) 0 :: rest), ht]
      exact dec_enc k q p _ hk1 hk2 hq1 hq2 hp
  · left
    rw [dec_beg hb]
    exact hb

/-- The sectors of two records, mixed. -/
def mixAt (L M : List Sec) (fr : List Bool) (i : Nat) : Option Sec := if L.length ≤ i ∨ ((fr[i]?).getD false = true ∧ i < M.length) then M[i]? else L[i]?
theorem mix_law (k1 q1 : Nat) (p1 : List UInt8) (k2 q2 : Nat) (p2 : List UInt8) (X : List Sec) (fr : List Bool) (hk11 : 1 ≤ k1) (hk12 : k1 ≤ 255) (hq11 : 1 ≤ q1) (hq12 : q1 ≤ 4294967295) (hp1 : p1.length ≤ 4096)
    (hk21 : 1 ≤ k2) (hk22 : k2 ≤ 255) (hq21 : 1 ≤ q2) (hq22 : q2 ≤ 4294967295) (hp2 : p2.length ≤ 4096) (hne : q1 ≠ q2)
    (hX : ∀ i, i < X.length → X[i]? = mixAt (encSecs k1 q1 p1) (encSecs k2 q2 p2) fr i) (hl : 0 < X.length) :
    (dec X).err ≠ 0 ∨ dec X = ⟨0, k1, q1, p1, sizeOfRec p1.length⟩ ∨ dec X = ⟨0, k2, q2, p2, sizeOfRec p2.length⟩ := by
  have hz1 := sizeOfRec_pos p1.length
  have hz2 := sizeOfRec_pos p2.length
  have l1 := encSecs_len k1 q1 p1
  have l2 := encSecs_len k2 q2 p2
  have hel : ∀ (i : Nat) (t : Sec), X[i]? = some t → (encSecs k1 q1 p1)[i]? = some t ∨ (encSecs k2 q2 p2)[i]? = some t := by
    intro i t ht
    have hi : i < X.length := by
      rcases Nat.lt_or_ge i X.length with h | h
      · exact h
      · rw [List.getElem?_eq_none h] at ht; cases ht
    rw [hX i hi] at ht
    unfold mixAt at ht
    split at ht
    · exact .inr ht
    · exact .inl ht
  have h0 := hX 0 hl
  unfold mixAt at h0
  split at h0
  · rcases dec_mix k2 q2 p2 X hk21 hk22 hq21 hq22 hp2 h0 (fun i t _ ht => by
      rcases hel i t ht with h | h
      · right
        rw [encSecs_num k1 q1 p1 hq12 t (List.mem_of_getElem? h)]
        exact hne
      · exact .inl h) with h | h
    · exact .inl h
    · exact .inr (.inr h)
  · rcases dec_mix k1 q1 p1 X hk11 hk12 hq11 hq12 hp1 h0 (fun i t _ ht => by
      rcases hel i t ht with h | h
      · exact .inl h
      · right
        rw [encSecs_num k2 q2 p2 hq22 t (List.mem_of_getElem? h)]
        exact fun e => hne e.symm) with h | h
    · exact .inl h
    · exact .inr (.inl h)
end Go.Proofs.Ytejoofeoffehmaa

/- The plain laws of a record: what Decode makes of sectors of a stream. -/
import Derived.Test.YtejoofeoffehmaaDec9
import Derived.Test.YtejoofeoffehmaaCrc2
namespace Go.Proofs.Ytejoofeoffehmaa
open Go.RowKit

def secsOf (q : Nat) (xs : List UInt8) (N : Nat) : List Sec := (List.range N).map (encSec q xs)
theorem secsOf_length (q : Nat) (xs : List UInt8) (N : Nat) : (secsOf q xs N).length = N := by simp [secsOf]
theorem mkSec_get (xs : List UInt8) (i : Nat) (h : i < 8) : (mkSec xs)[i] = (xs[i]?).getD 0 := by simp [mkSec]
theorem le_get (n k i : Nat) (h : i < k) : (le n k)[i]? = some (UInt8.ofNat (n / 256 ^ i)) := by simp [le, h]
theorem encSec_low (q : Nat) (xs : List UInt8) (j i : Nat) (h : i < 4) : (encSec q xs j)[i] = UInt8.ofNat (q / 256 ^ i) := by
  rw [encSec, mkSec_get _ _ (by omega), List.getElem?_append_left (by rw [le_length]; exact h), le_get _ _ _ h]
  rfl
theorem encSec_high (q : Nat) (xs : List UInt8) (j i : Nat) (h : i < 4) : (encSec q xs j)[4 + i] = (xs[4 * j + i]?).getD 0 := by
  rw [encSec, mkSec_get _ _ (by omega), List.getElem?_append_right (by rw [le_length]; omega), le_length, show 4 + i - 4 = i by omega, List.getElem?_take, if_pos h, List.getElem?_drop]
theorem encSec_num (q : Nat) (xs : List UInt8) (j : Nat) (hq : q < 4294967296) : secNum (encSec q xs j) = q := by
  unfold secNum
  have e0 := encSec_low q xs j 0 (by decide)
  have e1 := encSec_low q xs j 1 (by decide)
  have e2 := encSec_low q xs j 2 (by decide)
  have e3 := encSec_low q xs j 3 (by decide)
  rw [e0, e1, e2, e3]
  simp only [UInt8.toNat_ofNat', Nat.reducePow, Nat.pow_zero, Nat.pow_one]
  omega
theorem encSec_len (q : Nat) (xs : List UInt8) (h : 4 ≤ xs.length) : recLen (encSec q xs 0) = getNat ((xs.drop 1).take 2) := by
  unfold recLen
  have e0 := encSec_high q xs 0 1 (by decide)
  have e1 := encSec_high q xs 0 2 (by decide)
  simp only [Nat.reduceAdd] at e0 e1
  rw [e0, e1]
  match xs, h with
  | a :: b :: c :: d :: rest, _ => simp [getNat]
theorem encSec_part (q : Nat) (xs : List UInt8) (j : Nat) (h : 4 * j + 4 ≤ xs.length) : part4 (encSec q xs j) = (xs.drop (4 * j)).take 4 := by
  apply List.ext_getElem
  · rw [part4_length, List.length_take, List.length_drop]; omega
  · intro i h1 h2
    rw [part4_length] at h1
    have e := encSec_high q xs j i h1
    simp only [part4, List.getElem_drop, List.getElem_take, Vector.getElem_toList]
    rw [e, List.getElem?_eq_getElem (by omega)]
    rfl
theorem streamOf_secs (q : Nat) (xs : List UInt8) (N : Nat) (h : 4 * N ≤ xs.length) : streamOf (secsOf q xs N) = xs.take (4 * N) := by
  induction N with
  | zero => rfl
  | succ N ih =>
    rw [secsOf, List.range_succ, List.map_append, List.map_cons, List.map_nil, streamOf_snoc, ← secsOf, ih (by omega), encSec_part q xs N (by omega)]
    rw [show 4 * (N + 1) = 4 * N + 4 by omega, List.take_add]

theorem secsOf_cons (q : Nat) (xs : List UInt8) (N : Nat) : secsOf q xs (N + 1) = encSec q xs 0 :: (List.range N).map (fun j => encSec q xs (j + 1)) := by
  simp [secsOf, List.range_succ_eq_map]
theorem secsOf_all (q : Nat) (xs : List UInt8) (N : Nat) (hq : q < 4294967296) : (secsOf q xs N).all (fun t => secNum t == q) = true := by
  simp [secsOf, encSec_num q xs _ hq]

/-- What Decode makes of the sectors of a stream, whatever follows. -/
theorem dec_secs (q : Nat) (xs : List UInt8) (N n : Nat) (more : List Sec) (hq0 : q ≠ 0) (hq : q < 4294967296) (hx : xs.length = 4 * N) (hn : getNat ((xs.drop 1).take 2) = n) (hn4 : n ≤ 4096) (hN : N = sizeOfRec n) :
    dec (secsOf q xs N ++ more) = (if ¬ sumOk xs n then ⟨9, 0, 0, [], 0⟩ else if ¬ formOk xs n then ⟨3, 0, 0, [], 0⟩ else ⟨0, getNat (xs.take 1), q, (xs.drop 3).take n, N⟩) := by
  have hp := sizeOfRec_pos n
  obtain ⟨M, hM⟩ : ∃ M, N = M + 1 := ⟨N - 1, by omega⟩
  have hnum := encSec_num q xs 0 hq
  have hlen := encSec_len q xs (by omega)
  rw [hn] at hlen
  have hall := secsOf_all q xs N hq
  have hl := secsOf_length q xs N
  have hst := streamOf_secs q xs N (by omega)
  rw [List.take_of_length_le (by omega)] at hst
  have htake : (secsOf q xs N ++ more).take N = secsOf q xs N := by rw [List.take_append_of_le_length (by omega), List.take_of_length_le (by omega)]
  rw [hM, secsOf_cons] at htake hall hst hl ⊢
  rw [List.cons_append] at htake ⊢
  have hb : begErr (encSec q xs 0 :: ((List.range M).map (fun j => encSec q xs (j + 1)) ++ more)) = 0 := by
    simp only [begErr]
    rw [hnum, hlen, if_neg hq0, if_neg (by omega), if_neg (by simp; omega), if_pos]
    rw [← hN, hM, htake]
    exact hall
  have hd := dec_def _ _ hb xs (by rw [hlen, ← hN, hM, htake]; exact hst)
  rw [hd, hnum, hlen, ← hN, hM]

/-- Fewer sectors: torn. -/
theorem dec_cut (q : Nat) (xs : List UInt8) (N n i : Nat) (hq0 : q ≠ 0) (hq : q < 4294967296) (hx : xs.length = 4 * N) (hn : getNat ((xs.drop 1).take 2) = n) (hn4 : n ≤ 4096) (hN : N = sizeOfRec n) (hi : i < N) :
    dec ((secsOf q xs N).take i) = ⟨10, 0, 0, [], 0⟩ := by
  have hp := sizeOfRec_pos n
  have hnum := encSec_num q xs 0 hq
  have hlen := encSec_len q xs (by omega)
  rw [hn] at hlen
  have hl := secsOf_length q xs N
  obtain ⟨M, hM⟩ : ∃ M, N = M + 1 := ⟨N - 1, by omega⟩
  have hb : begErr ((secsOf q xs N).take i) = 10 := by
    cases i with
    | zero => rfl
    | succ i =>
      rw [hM, secsOf_cons, List.take_succ_cons]
      simp only [begErr]
      rw [hnum, hlen, if_neg hq0, if_neg (by omega), if_pos (by simp; omega)]
  rw [dec_beg (by rw [hb]; decide), hb]

/-- The stream of a record with its padding. -/
def recFull (k : Nat) (p : List UInt8) : List UInt8 := recStream k p ++ List.replicate (4 * sizeOfRec p.length - (p.length + 7)) 0
theorem recFull_length (k : Nat) (p : List UInt8) : (recFull k p).length = 4 * sizeOfRec p.length := by
  have := sizeOfRec_pos p.length
  rw [recFull, List.length_append, recStream_length, List.length_replicate]; omega
theorem encSecs_full (k q : Nat) (p : List UInt8) : encSecs k q p = secsOf q (recFull k p) (sizeOfRec p.length) := by
  unfold encSecs secsOf
  rw [recStream_length, show (p.length + 7 + 3) / 4 = sizeOfRec p.length from rfl]
  apply List.map_congr_left
  intro j _
  rw [← pad_part q (recStream k p) (4 * sizeOfRec p.length - (p.length + 7)) j]
  rfl
theorem encSecs_len (k q : Nat) (p : List UInt8) : (encSecs k q p).length = sizeOfRec p.length := by rw [encSecs_full, secsOf_length]
theorem getNat_le (n k : Nat) : getNat (le n k) = n % 256 ^ k := by
  induction k with
  | zero => simp [le, getNat, Nat.mod_one]
  | succ k ih =>
    rw [le_succ, getNat_append, ih, le_length]
    simp only [UInt8.toNat_ofNat']
    rw [show (256 : Nat) ^ (k + 1) = 256 ^ k * 256 from rfl, Nat.mod_mul]
theorem recFull_n (k : Nat) (p : List UInt8) (hp : p.length ≤ 4096) : getNat (((recFull k p).drop 1).take 2) = p.length := by
  have : ((recFull k p).drop 1).take 2 = le p.length 2 := by
    simp only [recFull, recStream, recHead, List.cons_append, List.drop_succ_cons, List.drop_zero, List.append_assoc]
    rw [List.take_append_of_le_length (by rw [le_length]; exact Nat.le_refl _), List.take_of_length_le (by rw [le_length]; exact Nat.le_refl _)]
  rw [this, getNat_le]
  exact Nat.mod_eq_of_lt (by omega)
theorem recFull_head (k : Nat) (p : List UInt8) : (recFull k p).take (3 + p.length) = recHead k p := by
  rw [recFull, recStream, List.append_assoc, List.take_append_of_le_length (by rw [recHead_length]; omega), List.take_of_length_le (by rw [recHead_length]; omega)]
theorem recFull_sum (k : Nat) (p : List UInt8) : ((recFull k p).drop (3 + p.length)).take 4 = le (upd 0 (recHead k p)).toNat 4 := by
  rw [recFull, recStream, List.append_assoc, List.drop_append_of_le_length (by rw [recHead_length]; omega), List.drop_of_length_le (by rw [recHead_length]; omega), List.nil_append, List.take_append_of_le_length (by rw [le_length]; exact Nat.le_refl _), List.take_of_length_le (by rw [le_length]; exact Nat.le_refl _)]
theorem recFull_sumOk (k : Nat) (p : List UInt8) : sumOk (recFull k p) p.length := by
  unfold sumOk
  rw [recFull_head, recFull_sum, getNat_le]
  exact Nat.mod_eq_of_lt (upd 0 (recHead k p)).toNat_lt
theorem recFull_pad (k : Nat) (p : List UInt8) : (recFull k p).drop (7 + p.length) = List.replicate (4 * sizeOfRec p.length - (p.length + 7)) 0 := by
  rw [recFull, List.drop_append_of_le_length (by rw [recStream_length]; omega), List.drop_of_length_le (by rw [recStream_length]; omega), List.nil_append]
theorem recFull_kind (k : Nat) (p : List UInt8) (hk : k ≤ 255) : getNat ((recFull k p).take 1) = k := by
  simp only [recFull, recStream, recHead, List.cons_append, List.take_succ_cons, List.take_zero, getNat, UInt8.toNat_ofNat']
  omega
theorem recFull_formOk (k : Nat) (p : List UInt8) (hk1 : 1 ≤ k) (hk : k ≤ 255) : formOk (recFull k p) p.length := by
  refine ⟨by rw [recFull_kind k p hk]; omega, ?_⟩
  rw [recFull_pad]; simp
theorem recFull_payload (k : Nat) (p : List UInt8) : ((recFull k p).drop 3).take p.length = p := by
  simp only [recFull, recStream, recHead, List.cons_append, List.append_assoc, List.drop_succ_cons]
  rw [List.drop_append_of_le_length (by rw [le_length]; exact Nat.le_refl _), List.drop_of_length_le (by rw [le_length]; exact Nat.le_refl _), List.nil_append, List.take_append_of_le_length (by omega), List.take_of_length_le (by omega)]

/-- Decode of the sectors of a record, whatever follows. -/
theorem dec_enc (k q : Nat) (p : List UInt8) (more : List Sec) (hk1 : 1 ≤ k) (hk2 : k ≤ 255) (hq1 : 1 ≤ q) (hq2 : q ≤ 4294967295) (hp : p.length ≤ 4096) :
    dec (encSecs k q p ++ more) = ⟨0, k, q, p, sizeOfRec p.length⟩ := by
  rw [encSecs_full, dec_secs q (recFull k p) (sizeOfRec p.length) p.length more (by omega) (by omega) (recFull_length k p) (recFull_n k p hp) hp rfl,
    if_neg (not_not_intro (recFull_sumOk k p)), if_neg (not_not_intro (recFull_formOk k p hk1 hk2)), recFull_kind k p hk2, recFull_payload]
theorem dec_enc_cut (k q : Nat) (p : List UInt8) (i : Nat) (hq1 : 1 ≤ q) (hq2 : q ≤ 4294967295) (hp : p.length ≤ 4096) (hi : i < sizeOfRec p.length) :
    dec ((encSecs k q p).take i) = ⟨10, 0, 0, [], 0⟩ := by
  rw [encSecs_full]
  exact dec_cut q (recFull k p) (sizeOfRec p.length) p.length i (by omega) (by omega) (recFull_length k p) (recFull_n k p hp) hp rfl hi
end Go.Proofs.Ytejoofeoffehmaa

/- The plain laws of a record: a changed byte. -/
import Derived.Test.YtejoofeoffehmaaRt
namespace Go.Proofs.Ytejoofeoffehmaa
open Go.RowKit

theorem xor_back (b c : UInt8) : b ^^^ (b ^^^ c) = c := by rw [← UInt8.xor_assoc, UInt8.xor_self, UInt8.zero_xor]
theorem upd_one (p q : List UInt8) (b c : UInt8) (h : b ≠ c) : upd 0 (p ++ b :: q) ≠ upd 0 (p ++ c :: q) := by
  intro e
  have e2 : upd 0 ((p ++ b :: q) ++ [0, 0, 0]) = upd 0 ((p ++ c :: q) ++ [0, 0, 0]) := by rw [← upd_append 0 (p ++ b :: q), ← upd_append 0 (p ++ c :: q), e]
  obtain ⟨q1, q2, q3, rest, hq⟩ : ∃ q1 q2 q3 rest, q ++ [0, 0, 0] = q1 :: q2 :: q3 :: rest := by
    match q with
    | [] => exact ⟨0, 0, 0, [], rfl⟩
    | [a] => exact ⟨a, 0, 0, [0], rfl⟩
    | [a, b] => exact ⟨a, b, 0, [0, 0], rfl⟩
    | a :: b :: c :: r => exact ⟨a, b, c, r ++ [0, 0, 0], rfl⟩
  have hd := upd_detects p rest b q1 q2 q3 (b ^^^ c) 0 0 0 (fun h' => h (by
    have h0 := xor_back b c
    rw [h'.1, UInt8.xor_zero] at h0
    exact h0))
  apply hd
  rw [xor_back]
  simp only [UInt8.xor_zero]
  have e3 : ∀ x : UInt8, p ++ ([x, q1, q2, q3] ++ rest) = (p ++ x :: q) ++ [0, 0, 0] := by
    intro x
    have h9 : x :: q ++ [0, 0, 0] = x :: q1 :: q2 :: q3 :: rest := by rw [List.cons_append, hq]
    rw [List.append_assoc, h9]
    rfl
  rw [e3, e3]
  exact e2
theorem upd_set (xs : List UInt8) (i : Nat) (v : UInt8) (hi : i < xs.length) (hv : v ≠ xs[i]) : upd 0 (xs.set i v) ≠ upd 0 xs := by
  have e1 : xs = xs.take i ++ (xs[i] :: xs.drop (i + 1)) := by rw [← List.drop_eq_getElem_cons hi, List.take_append_drop]
  have e2 : xs.set i v = xs.take i ++ (v :: xs.drop (i + 1)) := List.set_eq_take_append_cons_drop.trans (by rw [if_pos hi])
  rw [e2]
  conv => rhs; rw [e1]
  exact upd_one _ _ _ _ hv
theorem getNat_inj : ∀ {xs ys : List UInt8}, xs.length = ys.length → getNat xs = getNat ys → xs = ys
  | [], [], _, _ => rfl
  | [], _ :: _, h, _ => by simp at h
  | _ :: _, [], h, _ => by simp at h
  | a :: xs, b :: ys, h, e => by
    simp only [getNat] at e
    have ha := a.toNat_lt
    have hb := b.toNat_lt
    have h1 : a.toNat = b.toNat := by omega
    rw [UInt8.toNat_inj.1 h1, getNat_inj (by simpa using h) (by omega : getNat xs = getNat ys)]
theorem sbytes_get : ∀ (ss : List Sec) (j t : Nat) (hj : j < ss.length) (ht : t < 8), (ss.flatMap (·.toList))[8 * j + t]? = some (ss[j])[t]
  | s :: ss, 0, t, _, ht => by
    rw [List.flatMap_cons, List.getElem?_append_left (by simp; omega), List.getElem?_eq_getElem (by simp; omega)]
    simp
  | s :: ss, j + 1, t, hj, ht => by
    rw [List.flatMap_cons, List.getElem?_append_right (by simp; omega)]
    have : 8 * (j + 1) + t - s.toList.length = 8 * j + t := by simp; omega
    rw [this, sbytes_get ss j t (by simpa using hj) ht]
    simp
theorem sbytes_length (ss : List Sec) : (ss.flatMap (·.toList)).length = 8 * ss.length := by
  induction ss with
  | nil => rfl
  | cons s ss ih => rw [List.flatMap_cons, List.length_append, ih]; simp; omega
theorem secsCells_sbytes (ss : List Sec) : secsCells ss = (ss.flatMap (·.toList)).map u8v := by
  unfold secsCells
  rw [List.map_flatMap]
  rfl
theorem secsOf_get (q : Nat) (xs : List UInt8) (N j : Nat) (h : j < (secsOf q xs N).length) : (secsOf q xs N)[j] = encSec q xs j := by simp [secsOf]
theorem secsOf_set (q : Nat) (xs : List UInt8) (N i : Nat) (v : UInt8) (hx : xs.length = 4 * N) (hi : i < 4 * N) :
    secsCells (secsOf q (xs.set i v) N) = (secsCells (secsOf q xs N)).set (i / 4 * 8 + (4 + i % 4)) (u8v v) := by
  rw [secsCells_sbytes, secsCells_sbytes, ← List.map_set]
  congr 1
  apply List.ext_getElem?
  intro m
  have l1 := sbytes_length (secsOf q (xs.set i v) N)
  have l2 := sbytes_length (secsOf q xs N)
  rw [secsOf_length] at l1 l2
  by_cases hm : m < 8 * N
  · obtain ⟨j, t, hj, ht, rfl⟩ : ∃ j t, j < N ∧ t < 8 ∧ m = 8 * j + t := ⟨m / 8, m % 8, by omega, by omega, by omega⟩
    rw [sbytes_get _ j t (by rw [secsOf_length]; exact hj) ht, secsOf_get, List.getElem?_set, sbytes_get _ j t (by rw [secsOf_length]; exact hj) ht, secsOf_get, l2]
    by_cases h4 : t < 4
    · rw [if_neg (by omega), encSec_low _ _ _ _ h4, encSec_low _ _ _ _ h4]
    · obtain ⟨u, rfl⟩ : ∃ u, t = 4 + u := ⟨t - 4, by omega⟩
      rw [encSec_high _ _ _ u (by omega), encSec_high _ _ _ u (by omega), List.getElem?_set]
      by_cases he : i = 4 * j + u
      · rw [if_pos he, if_pos (by omega), if_pos (by omega), if_pos (by omega)]
        rfl
      · rw [if_neg he, if_neg (by omega)]
  · rw [List.getElem?_eq_none (by omega), List.getElem?_eq_none (by rw [List.length_set]; omega)]

/-- A changed byte that is not of the length is detected. -/
theorem dec_detects (k q : Nat) (p : List UInt8) (i : Nat) (v : UInt8) (hq1 : 1 ≤ q) (hq2 : q ≤ 4294967295) (hp : p.length ≤ 4096) (hi : i < 4 * sizeOfRec p.length) (h1 : i ≠ 1) (h2 : i ≠ 2)
    (hv : ∀ h : i < (recFull k p).length, v ≠ (recFull k p)[i]) : ∃ er, (er = 9 ∨ er = 3) ∧ dec (secsOf q ((recFull k p).set i v) (sizeOfRec p.length)) = ⟨er, 0, 0, [], 0⟩ := by
  have hl := recFull_length k p
  have hn := recFull_n k p hp
  have hs := recFull_sumOk k p
  have hpad := recFull_pad k p
  have hz := sizeOfRec_pos p.length
  have hvi := hv (by omega)
  have hn' : getNat ((((recFull k p).set i v).drop 1).take 2) = p.length := by
    rw [List.drop_set]
    split
    · exact hn
    · rw [List.take_set, List.set_eq_of_length_le (by rw [List.length_take]; omega)]
      exact hn
  have hd := dec_secs q ((recFull k p).set i v) (sizeOfRec p.length) p.length [] (by omega) (by omega) (by rw [List.length_set]; exact hl) hn' hp rfl
  rw [List.append_nil] at hd
  by_cases c1 : i < 3 + p.length
  · refine ⟨9, .inl rfl, ?_⟩
    rw [hd, if_pos]
    intro hs'
    unfold sumOk at hs hs'
    rw [List.drop_set, if_pos c1, hs, List.take_set] at hs'
    have hu := upd_set ((recFull k p).take (3 + p.length)) i v (by rw [List.length_take]; omega) (by rw [List.getElem_take]; exact hvi)
    exact hu (UInt32.toNat_inj.1 hs'.symm)
  · by_cases c2 : i < 7 + p.length
    · refine ⟨9, .inl rfl, ?_⟩
      rw [hd, if_pos]
      intro hs'
      unfold sumOk at hs hs'
      have hr : ((recFull k p).set i v).take (3 + p.length) = (recFull k p).take (3 + p.length) := by rw [List.take_set, List.set_eq_of_length_le (by rw [List.length_take]; omega)]
      rw [hr, List.drop_set, if_neg c1, List.take_set, ← hs] at hs'
      have he := getNat_inj (by rw [List.length_set]) hs'
      have hg := congrArg (fun l => l[i - (3 + p.length)]?) he
      simp only [List.getElem?_set, List.getElem?_take, List.getElem?_drop] at hg
      rw [if_pos trivial, if_pos (by rw [List.length_take, List.length_drop]; omega), if_pos (by omega), show 3 + p.length + (i - (3 + p.length)) = i by omega, List.getElem?_eq_getElem (by omega)] at hg
      exact hvi (by injection hg)
    · refine ⟨3, .inr rfl, ?_⟩
      rw [hd, if_neg, if_pos]
      · rintro ⟨_, h⟩
        rw [List.drop_set, if_neg c2, hpad, List.all_eq_true] at h
        have hm : v ∈ (List.replicate (4 * sizeOfRec p.length - (p.length + 7)) (0 : UInt8)).set (i - (7 + p.length)) v := List.mem_set (by rw [List.length_replicate]; omega) v
        have h0 := h v hm
        have hx : (recFull k p)[i] = 0 := by
          have h9 : ((recFull k p).drop (7 + p.length))[i - (7 + p.length)]? = some (recFull k p)[i] := by
            rw [List.getElem?_drop, show 7 + p.length + (i - (7 + p.length)) = i by omega, List.getElem?_eq_getElem]
          rw [hpad, List.getElem?_replicate, if_pos (by omega)] at h9
          injection h9 with h9
          exact h9.symm
        rw [hx] at hvi
        exact hvi (by simpa using h0)
      · intro hns
        apply hns
        unfold sumOk at hs ⊢
        rw [List.drop_set, if_neg (by omega), List.take_set, List.set_eq_of_length_le (by rw [List.length_take]; omega), List.take_set, List.set_eq_of_length_le (by rw [List.length_take]; omega)]
        exact hs
end Go.Proofs.Ytejoofeoffehmaa

/- Contracts: the reference's Size, put, get, Number; Size. -/
import Derived.Test.YtejoofeoffehmaaRec0
namespace Go.Proofs.Ytejoofeoffehmaa
open Go.RowKit

def sizeOfRec (n : Nat) : Nat := (n + 10) / 4
theorem size_out (n : Int) (h0 : n < 0 ∨ 4096 < n) (w : World) : Calls Try.prog 12 #[.int .i64 n] w fun e w' => e = .returned (.int .i64 0) ∧ w = w' := by
  rcases h0 with h0 | h0
  · go_enter Try.func12, Try.ntmps12
    go_wp2_with fail
    go_ret
    exact ⟨rfl, rfl⟩
  · have h1 : ¬ n < 0 := by omega
    go_enter Try.func12, Try.ntmps12
    go_wp2_with fail
    go_ret
    exact ⟨rfl, rfl⟩
theorem size_in (n : Nat) (h0 : n ≤ 4096) (w : World) : Calls Try.prog 12 #[.int .i64 n] w fun e w' => e = .returned (.int .i64 (sizeOfRec n : Nat)) ∧ w = w' := by
  have h1 : ¬ (n : Int) < 0 := by omega
  have h2 : ¬ (4096 : Int) < n := by omega
  have he : (3 + (n : Int) + 4 + 4 - 1) / 4 = ((sizeOfRec n : Nat) : Int) := by unfold sizeOfRec; omega
  have HE := Lib.hid he
  clear he
  go_enter Try.func12, Try.ntmps12
  go_wp2_with fail
  go_ret
  exact ⟨ret_int HE.out, rfl⟩
theorem refsize_out (n : Int) (h0 : n < 0 ∨ 4096 < n) (w : World) : Calls Try.prog 13 #[.int .i64 n] w fun e w' => e = .returned (.int .i64 0) ∧ w = w' := by
  rcases h0 with h0 | h0
  · go_enter Try.func13, Try.ntmps13
    go_wp2_with fail
    go_ret
    exact ⟨rfl, rfl⟩
  · have h1 : ¬ n < 0 := by omega
    go_enter Try.func13, Try.ntmps13
    go_wp2_with fail
    go_ret
    exact ⟨rfl, rfl⟩
theorem refsize_in (n : Nat) (h0 : n ≤ 4096) (w : World) : Calls Try.prog 13 #[.int .i64 n] w fun e w' => e = .returned (.int .i64 (sizeOfRec n : Nat)) ∧ w = w' := by
  have h1 : ¬ (n : Int) < 0 := by omega
  have h2 : ¬ (4096 : Int) < n := by omega
  have he : (7 + (n : Int) + 3) / 4 = ((sizeOfRec n : Nat) : Int) := by unfold sizeOfRec; omega
  have HE := Lib.hid he
  clear he
  go_enter Try.func13, Try.ntmps13
  go_wp2_with fail
  go_ret
  exact ⟨ret_int HE.out, rfl⟩

theorem put_byte (n k : Nat) : (n : Int) / 2 ^ (8 * k) % (256 : Int) = ((UInt8.ofNat (n / 256 ^ k)).toNat : Int) := by
  rw [← low_byte, Int.natCast_ediv, Int.natCast_pow, Int.pow_mul]
  rfl

set_option maxHeartbeats 1000000 in
/-- put appends to a slice of the call's own. -/
theorem put_any (base : Nat) (A : Option Addr) (m c : Nat) (xs : List Value) (n s : Nat) (_hn : n ≤ 9223372036854775807) (hs : s ≤ 7) (hm : m ≤ 1000000) (w : World) (hbase : base ≤ w.heap.size) (hown : Own w base 5 1 A m c xs) :
    Calls Try.prog 27 #[.slice A m c, .int .i64 n, .int .i64 s] w fun e w' => ∃ A' c', e = .returned (.slice A' (m + s) c') ∧ Own w' base 5 1 A' (m + s) c' (xs ++ (le n s).map u8v) ∧ Below base w w' := by
  have HW := Lib.hid hown
  clear hown
  go_enter Try.func27, Try.ntmps27
  go_wp2_with fail
  go_loopw [0, 7] (fun v i wr => ∃ (k : Nat) (A' : Option Addr) (c' : Nat), k ≤ s ∧ i = .int .i64 k ∧ v = .slice A' (m + k) c' ∧
      Own wr base 5 1 A' (m + k) c' (xs ++ (le n k).map u8v) ∧ Below base w wr) (fun _ i _ => s - (intOf i).toNat)
  case atStart => exact ⟨0, A, c, Nat.zero_le _, rfl, rfl, by simpa [le] using HW.out, Below.refl _ _⟩
  case round =>
    obtain ⟨k, A1, c1, hk, rfl, rfl, ho, hB⟩ := hrel
    have HO := Lib.hid ho
    clear ho
    have hsz : base ≤ wr.heap.size := Nat.le_trans hbase hB.size
    by_cases hlt : k < s
    · have HS := Lib.hid (le_succ n k)
      have he := put_byte n k
      generalize UInt8.ofNat (n / 256 ^ k) = x at he HS
      go_wp2_with
        (at_builtin
         refine wpList_app _ rfl (.tmp 13) (.tmp 19) 25 rfl 5 1 1 elemB base A1 (m + k) c1 (xs ++ (le n k).map u8v) rfl (HO.out.alloc _) (wr.heap.size + 1) (some ⟨wr.heap.size, 0, none⟩) 1 1 [u8v x] rfl (reads_one _ _ _) (by simp [u8v, Value.oneCell']) (m + k + 1) rfl (xs ++ (le n (k + 1)).map u8v) (by rw [HS.out]; simp) (by simp only [maxLen]; omega) (by omega) (by simp; omega) ?_
         intro A3 c3 w3 ho3 hg3 hl3
         have hB3 : Below base w w3 := below_app (hB.alloc hsz _) (by simp; omega) (fun j hj => (HO.out.block j hj).1) hg3
         have HO3 := Lib.hid ho3
         have HG3 := Lib.hid hg3
         have HL3 := Lib.hid hl3
         clear ho3 hg3 hl3)
      go_roundw
      case rel => exact ⟨k + 1, A3, c3, by omega, by go_num, rfl, HO3.out, hB3⟩
      case measure => simp [intOf]; omega
    · obtain rfl : k = s := by omega
      go_wp2_with fail
      go_ret
      exact ⟨A1, c1, rfl, HO.out, hB⟩

/-- The number with some bytes, the least significant one first. -/
def getNat : List UInt8 → Nat
  | [] => 0
  | x :: xs => x.toNat + 256 * getNat xs
theorem getNat_lt (xs : List UInt8) : getNat xs < 256 ^ xs.length := by
  induction xs with
  | nil => simp [getNat]
  | cons x xs ih =>
    have := x.toNat_lt
    rw [getNat, List.length_cons, Nat.pow_succ]
    omega

set_option maxHeartbeats 1000000 in
theorem get_any (A : Option Addr) (c : Nat) (xs : List UInt8) (hl : xs.length ≤ 7) (w : World) (hR : RB w w.heap.size A xs) :
    Calls Try.prog 33 #[.slice A xs.length c] w fun e w' => e = .returned (.int .i64 (getNat xs : Nat)) ∧ w = w' := by
  have HR := Lib.hid hR
  clear hR
  go_enter Try.func33, Try.ntmps33
  go_wp2_with fail
  go_loop [3, 4] (fun n i => ∃ k : Nat, k ≤ xs.length ∧ i = .int .i64 ((k : Int) - 1) ∧ n = .int .i64 ((getNat (xs.drop k) : Nat) : Int)) (fun _ i => (intOf i + 1).toNat)
  case atStart => exact ⟨xs.length, Nat.le_refl _, rfl, by simp [getNat]⟩
  case round =>
    obtain ⟨k, hk, rfl, rfl⟩ := hrel
    cases k with
    | zero =>
      go_wp2_with fail
      go_ret
      exact ⟨rfl, rfl⟩
    | succ k =>
      have hlt : k < xs.length := by omega
      obtain ⟨b0, o0, hA, _, hc⟩ := HR.out.at_ hlt
      subst hA
      have hd : getNat (xs.drop k) = xs[k].toNat + 256 * getNat (xs.drop (k + 1)) := by rw [List.drop_eq_getElem_cons hlt, getNat]
      have hb : getNat (xs.drop (k + 1)) < 256 ^ 6 := Nat.lt_of_lt_of_le (getNat_lt _) (Nat.pow_le_pow_right (by decide) (by rw [List.length_drop]; omega))
      have hx := xs[k].toNat_lt
      have HD := Lib.hid hd
      clear hd
      generalize getNat (xs.drop (k + 1)) = g at *
      generalize xs[k].toNat = x at *
      have hb2 : g < 281474976710656 := hb
      clear hb
      rw [show ((k + 1 : Nat) : Int) - 1 = (k : Int) by omega]
      go_wp2_with fail
      go_round
      case rel => exact ⟨k, by omega, rfl, by rw [HD.out]; go_num⟩
      case measure => simp [intOf]
theorem get_n (A : Option Addr) (n c : Nat) (xs : List UInt8) (hn : xs.length = n) (hl : n ≤ 7) (w : World) (hR : RB w w.heap.size A xs) :
    Calls Try.prog 33 #[.slice A n c] w fun e w' => e = .returned (.int .i64 (getNat xs : Nat)) ∧ w = w' := by
  subst hn; exact get_any A c xs hl w hR

theorem secNum_get (s : Sec) : getNat (s.toList.take 4) = secNum s := by
  have h : s.toList.take 4 = [s[0], s[1], s[2], s[3]] := by
    apply List.ext_getElem
    · simp
    · intro i h1 h2
      have hi : i < 4 := by simpa using h2
      match i, hi with
      | 0, _ => simp
      | 1, _ => simp
      | 2, _ => simp
      | 3, _ => simp
  rw [h]
  simp only [getNat, secNum]
  omega

/-- The bytes of a sector from place i on, in a block of its own. -/
theorem rb_sec (w : World) (t : TypeId) (s : Sec) (i n B : Nat) (hn : i + n ≤ 8) (hB : w.heap.size < B) : RB (w.alloc (.cells (secCells s).toArray t)) B (some ⟨w.heap.size, i, none⟩) ((s.toList.drop i).take n) := by
  have hl : ((s.toList.drop i).take n).length = n := by rw [List.length_take, List.length_drop, Vector.length_toList]; omega
  refine ⟨by simp, fun _ => ⟨w.heap.size, i, rfl, hB, fun j v hv => ?_⟩⟩
  rw [(Blk.new w t (secCells s).toArray).cell]
  have hj : j < n := by
    have := (List.getElem?_eq_some_iff.1 hv).1
    rw [List.length_map, hl] at this
    exact this
  rw [List.getElem?_map, List.getElem?_take, if_pos hj, List.getElem?_drop, ← List.getElem?_map] at hv
  simpa [secCells] using hv

set_option maxHeartbeats 1000000 in
theorem refnumber_any (s : Sec) (w : World) :
    Calls Try.prog 32 #[.agg (secCells s).toArray] w fun e w' => e = .returned (.int .i64 (secNum s)) ∧ Below w.heap.size w w' := by
  have hR := rb_sec w 47 s 0 4 (w.heap.size + 1) (by omega) (by omega)
  have HR := Lib.hid hR
  have HN := Lib.hid (secNum_get s)
  clear hR
  generalize hC : (secCells s).toArray = C at *
  go_enter Try.func32, Try.ntmps32
  go_wp2_with fail
  refine (get_n _ _ _ (s.toList.take 4) (by rw [List.length_take, Vector.length_toList]; rfl) (by decide) _ (by simpa using HR.out)).mono ?_
  rintro e w1 ⟨rfl, rfl⟩
  rw [HN.out]
  go_wp2_with fail
  go_ret
  exact ⟨rfl, (Below.refl _ w).alloc (Nat.le_refl _) _⟩
end Go.Proofs.Ytejoofeoffehmaa

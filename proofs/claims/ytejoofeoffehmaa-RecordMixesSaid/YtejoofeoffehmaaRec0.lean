/- Contracts: little, number, Size, the reference's Size, put, get, Number. -/
import Derived.Test.YtejoofeoffehmaaRows
import Derived.Test.YtejoofeoffehmaaBase
import Derived.Test.YtejoofeoffehmaaApp
import Derived.Test.YtejoofeoffehmaaSec
namespace Go.Proofs.Ytejoofeoffehmaa
open Go.RowKit

/-- A number in some bytes, the least significant one first. -/
def le (n size : Nat) : List UInt8 := (List.range size).map fun i => UInt8.ofNat (n / 256 ^ i)
theorem le_succ (n k : Nat) : le n (k + 1) = le n k ++ [UInt8.ofNat (n / 256 ^ k)] := by simp [le, List.range_succ]
theorem le_length (n k : Nat) : (le n k).length = k := by simp [le]
theorem low_byte (n : Nat) : (n : Int) % (256 : Int) = ((UInt8.ofNat n).toNat : Int) := by
  rw [UInt8.toNat_ofNat']
  omega
theorem div_pow_succ (n k : Nat) : n / 256 ^ k / 256 = n / 256 ^ (k + 1) := by
  rw [Nat.div_div_eq_div_mul, Nat.pow_succ]

set_option maxHeartbeats 1000000 in
theorem little_any (n s : Nat) (hn : n ≤ 9223372036854775807) (hs : s ≤ 8) (w : World) :
    Calls Try.prog 25 #[.int .i64 n, .int .i64 s] w fun e w' => ∃ A c, e = .returned (.slice A s c) ∧ Own w' w.heap.size 5 1 A s c ((le n s).map u8v) ∧ Below w.heap.size w w' := by
  go_enter Try.func25, Try.ntmps25
  go_wp2_with fail
  go_loopw [0, 5, 7] (fun m v i wr => ∃ (k : Nat) (A' : Option Addr) (c' : Nat), k ≤ s ∧ i = .int .i64 k ∧ m = .int .i64 ((n / 256 ^ k : Nat) : Int) ∧ v = .slice A' k c' ∧
      Own wr w.heap.size 5 1 A' k c' ((le n k).map u8v) ∧ Below w.heap.size w wr) (fun _ _ i _ => s - (intOf i).toNat)
  case atStart => exact ⟨0, none, 0, Nat.zero_le _, rfl, by simp, rfl, Own.nil_ _ _ _ _, Below.refl _ _⟩
  case round =>
    obtain ⟨k, A1, c1, hk, rfl, rfl, rfl, ho, hB⟩ := hrel
    have HO := Lib.hid ho
    clear ho
    by_cases hlt : k < s
    · have HS := Lib.hid (le_succ n k)
      have HD := Lib.hid (div_pow_succ n k)
      have hm : n / 256 ^ k ≤ 9223372036854775807 := Nat.le_trans (Nat.div_le_self _ _) hn
      generalize n / 256 ^ k = m at hm HS HD ⊢
      have he := low_byte m
      generalize UInt8.ofNat m = x at he HS
      go_wp2_with
        (at_builtin
         refine wpList_app _ rfl (.tmp 9) (.tmp 12) 25 rfl 5 1 1 elemB w.heap.size A1 k c1 ((le n k).map u8v) rfl (HO.out.alloc _) (wr.heap.size + 1) (some ⟨wr.heap.size, 0, none⟩) 1 1 [u8v x] rfl (reads_one _ _ _) (by simp [u8v, Value.oneCell']) (k + 1) rfl ((le n (k + 1)).map u8v) (by rw [HS.out]; simp) (by simp only [maxLen]; omega) (by omega) (by have := hB.size; simp; omega) ?_
         intro A3 c3 w3 ho3 hg3 hl3
         have hB3 : Below w.heap.size w w3 := below_app (hB.alloc hB.size _) (by have := hB.size; simp; omega) (fun j hj => (HO.out.block j hj).1) hg3
         have HO3 := Lib.hid ho3
         have HG3 := Lib.hid hg3
         have HL3 := Lib.hid hl3
         clear ho3 hg3 hl3)
      go_roundw
      case rel => exact ⟨k + 1, A3, c3, by omega, by go_num, by rw [← HD.out]; simp, rfl, HO3.out, hB3⟩
      case measure => simp [intOf]; omega
    · obtain rfl : k = s := by omega
      go_wp2_with fail
      go_ret
      exact ⟨A1, c1, rfl, HO.out, hB⟩

theorem wrap_i64_cast (n : Nat) (h : n < 9223372036854775808) : IntKind.i64.wrap (n : Int) = n := IntWalk.i64_in _ (by omega)
theorem or_i64 (a b : Nat) (ha : a < 9223372036854775808) (hb : b < 9223372036854775808) : bits .or .i64 (a : Int) (b : Int) = ((a ||| b : Nat) : Int) := by
  show IntKind.i64.wrap ((BitVec.ofInt 64 _ ||| BitVec.ofInt 64 _).toNat : Int) = _
  rw [ofInt_cast, ofInt_cast, BitVec.toNat_or, BitVec.toNat_ofNat, BitVec.toNat_ofNat, Nat.mod_eq_of_lt (by omega), Nat.mod_eq_of_lt (by omega)]
  exact wrap_i64_cast _ (Nat.or_lt_two_pow (n := 63) ha hb)
theorem or_join (a b i : Nat) (ha : a < 2 ^ i) : a ||| (2 ^ i * b) = a + 2 ^ i * b := by
  have h := Nat.two_pow_add_eq_or_of_lt ha b
  rw [Nat.or_comm, ← h, Nat.add_comm]

theorem or4 (a b c d : Nat) (ha : a < 256) (hb : b < 256) (hc : c < 256) (hd : d < 256) :
    bits .or .i64 (bits .or .i64 (bits .or .i64 (a : Int) ((b : Int) * 256)) ((c : Int) * 65536)) ((d : Int) * 16777216) = ((a + 256 * b + 65536 * c + 16777216 * d : Nat) : Int) := by
  have e1 : ((b : Int) * 256) = ((256 * b : Nat) : Int) := by omega
  have e2 : ((c : Int) * 65536) = ((65536 * c : Nat) : Int) := by omega
  have e3 : ((d : Int) * 16777216) = ((16777216 * d : Nat) : Int) := by omega
  have j1 : a ||| 256 * b = a + 256 * b := or_join a b 8 (by omega)
  have j2 : (a + 256 * b) ||| 65536 * c = (a + 256 * b) + 65536 * c := or_join _ c 16 (by omega)
  have j3 : (a + 256 * b + 65536 * c) ||| 16777216 * d = (a + 256 * b + 65536 * c) + 16777216 * d := or_join _ d 24 (by omega)
  rw [e1, e2, e3, or_i64 _ _ (by omega) (by omega), j1, or_i64 _ _ (by omega) (by omega), j2, or_i64 _ _ (by omega) (by omega), j3]

def secNum (s : Sec) : Nat := s[0].toNat + 256 * s[1].toNat + 65536 * s[2].toNat + 16777216 * s[3].toNat
theorem secNum_lt (s : Sec) : secNum s < 4294967296 := by
  have h0 := s[0].toNat_lt
  have h1 := s[1].toNat_lt
  have h2 := s[2].toNat_lt
  have h3 := s[3].toNat_lt
  unfold secNum
  omega

set_option maxHeartbeats 1000000 in
theorem number_any (s : Sec) (w : World) :
    Calls Try.prog 38 #[.agg (secCells s).toArray] w fun e w' => e = .returned (.int .i64 (secNum s)) ∧ Below w.heap.size w w' := by
  have hb := Blk.new w 47 (secCells s).toArray
  have k0 := hb.cell_of (i := 0) (v := .int .u8 (s[0].toNat : Int)) (by simpa using secCells_get s 0 (by decide))
  have k1 := hb.cell_of (i := 1) (v := .int .u8 (s[1].toNat : Int)) (by simpa using secCells_get s 1 (by decide))
  have k2 := hb.cell_of (i := 2) (v := .int .u8 (s[2].toNat : Int)) (by simpa using secCells_get s 2 (by decide))
  have k3 := hb.cell_of (i := 3) (v := .int .u8 (s[3].toNat : Int)) (by simpa using secCells_get s 3 (by decide))
  have l0 := s[0].toNat_lt
  have l1 := s[1].toNat_lt
  have l2 := s[2].toNat_lt
  have l3 := s[3].toNat_lt
  have hn : secNum s = s[0].toNat + 256 * s[1].toNat + 65536 * s[2].toNat + 16777216 * s[3].toNat := rfl
  have HN := Lib.hid hn
  clear hb hn
  generalize secNum s = N at HN ⊢
  generalize s[0].toNat = a at *
  generalize s[1].toNat = b at *
  generalize s[2].toNat = c at *
  generalize s[3].toNat = d at *
  generalize (secCells s).toArray = C at *
  go_enter Try.func38, Try.ntmps38
  have ho := or4 a b c d l0 l1 l2 l3
  rw [← HN.out] at ho
  go_wp2_with fail
  go_ret
  exact ⟨rfl, (Below.refl _ w).alloc (Nat.le_refl _) _⟩
end Go.Proofs.Ytejoofeoffehmaa

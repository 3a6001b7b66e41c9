/- Contract: Encode. -/
import Derived.Test.YtejoofeoffehmaaRec1
import Derived.Test.YtejoofeoffehmaaCk3
import Derived.Deep.RegionHeld3
namespace Go.Proofs.Ytejoofeoffehmaa
open Go.RowKit

/-- The stream of a record ahead of its sum, and with it. -/
def recHead (k : Nat) (payload : List UInt8) : List UInt8 := UInt8.ofNat k :: (le payload.length 2 ++ payload)
def recStream (k : Nat) (payload : List UInt8) : List UInt8 := recHead k payload ++ le (upd 0 (recHead k payload)).toNat 4
theorem recHead_length (k : Nat) (p : List UInt8) : (recHead k p).length = p.length + 3 := by simp [recHead, le_length]; omega
theorem recStream_length (k : Nat) (p : List UInt8) : (recStream k p).length = p.length + 7 := by simp [recStream, recHead_length, le_length]

def recV (k s : Int) (P : Option Addr) (n c : Nat) : Value := .agg #[.int .i64 k, .int .i64 s, .slice P n c]

set_option maxHeartbeats 1000000 in
theorem encode_range (k s : Int) (P : Option Addr) (n c : Nat) (h : k < 1 ∨ 255 < k ∨ s < 1 ∨ 4294967295 < s) (w : World) :
    Calls Try.prog 14 #[recV k s P n c] w fun e w' => e = .returned (.tuple #[.slice none 0 0, .int .i64 2]) ∧ Below w.heap.size w w' := by
  unfold recV
  by_cases h1 : k < 1
  · clear h
    go_enter Try.func14, Try.ntmps14
    go_wp2_with fail
    go_ret2
    exact ⟨rfl, (Below.refl _ w).alloc (Nat.le_refl _) _⟩
  · by_cases h2 : 255 < k
    · clear h
      go_enter Try.func14, Try.ntmps14
      go_wp2_with fail
      go_ret2
      exact ⟨rfl, (Below.refl _ w).alloc (Nat.le_refl _) _⟩
    · by_cases h3 : s < 1
      · clear h
        go_enter Try.func14, Try.ntmps14
        go_wp2_with fail
        go_ret2
        exact ⟨rfl, (Below.refl _ w).alloc (Nat.le_refl _) _⟩
      · have h4 : 4294967295 < s := by omega
        clear h
        go_enter Try.func14, Try.ntmps14
        go_wp2_with fail
        go_ret2
        exact ⟨rfl, (Below.refl _ w).alloc (Nat.le_refl _) _⟩

set_option maxHeartbeats 1000000 in
theorem encode_long (k s : Int) (P : Option Addr) (n c : Nat) (h1 : ¬ k < 1) (h2 : ¬ 255 < k) (h3 : ¬ s < 1) (h4 : ¬ 4294967295 < s) (h5 : 4096 < n) (_h6 : n ≤ 9223372036854775807) (w : World) :
    Calls Try.prog 14 #[recV k s P n c] w fun e w' => e = .returned (.tuple #[.slice none 0 0, .int .i64 5]) ∧ Below w.heap.size w w' := by
  unfold recV
  go_enter Try.func14, Try.ntmps14
  go_wp2_with fail
  go_ret2
  exact ⟨rfl, (Below.refl _ w).alloc (Nat.le_refl _) _⟩

end Go.Proofs.Ytejoofeoffehmaa

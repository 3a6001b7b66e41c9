/- Contracts: Encode and the reference's Encode, for every record. -/
import Derived.Test.YtejoofeoffehmaaRec4
namespace Go.Proofs.Ytejoofeoffehmaa
open Go.RowKit

def encE (k s : Int) (n : Nat) : Nat := if k < 1 ∨ 255 < k ∨ s < 1 ∨ 4294967295 < s then 2 else if 4096 < n then 5 else 0
def encL (k s : Int) (p : List UInt8) : List Sec := if k < 1 ∨ 255 < k ∨ s < 1 ∨ 4294967295 < s then [] else if 4096 < p.length then [] else encSecs k.toNat s.toNat p

/-- What Encode gives back. -/
def EncPost (k s : Int) (p : List UInt8) (w : World) (e : Ending) (w' : World) : Prop :=
  ∃ A c, e = .returned (.tuple #[.slice A (encL k s p).length c, .int .i64 (encE k s p.length)]) ∧ Own w' w.heap.size 47 8 A (encL k s p).length c (secsCells (encL k s p)) ∧ Below w.heap.size w w'

theorem encode_any (k s : Int) (P : Option Addr) (n c : Nat) (p : List UInt8) (hn : p.length = n) (h63 : n ≤ 9223372036854775807) (w : World) (hR : RB w w.heap.size P p) :
    Calls Try.prog 14 #[.agg #[.int .i64 k, .int .i64 s, .slice P n c]] w (EncPost k s p w) := by
  subst hn
  unfold EncPost encE encL
  by_cases h : k < 1 ∨ 255 < k ∨ s < 1 ∨ 4294967295 < s
  · simp only [if_pos h]
    refine (encode_range k s P p.length c h w).mono ?_
    rintro e w' ⟨rfl, hB⟩
    exact ⟨none, 0, rfl, Own.nil_ _ _ _ _, hB⟩
  · simp only [if_neg h]
    by_cases h5 : 4096 < p.length
    · simp only [if_pos h5]
      refine (encode_long k s P p.length c (by omega) (by omega) (by omega) (by omega) h5 h63 w).mono ?_
      rintro e w' ⟨rfl, hB⟩
      exact ⟨none, 0, rfl, Own.nil_ _ _ _ _, hB⟩
    · simp only [if_neg h5]
      obtain ⟨k', rfl⟩ : ∃ k' : Nat, k = k' := ⟨k.toNat, by omega⟩
      obtain ⟨s', rfl⟩ : ∃ s' : Nat, s = s' := ⟨s.toNat, by omega⟩
      exact encode_ok k' s' P c p (by omega) (by omega) (by omega) (by omega) (by omega) w hR

theorem refencode_any (k s : Int) (P : Option Addr) (n c : Nat) (p : List UInt8) (hn : p.length = n) (h63 : n ≤ 9223372036854775807) (w : World) (hR : RB w w.heap.size P p) :
    Calls Try.prog 15 #[.agg #[.int .i64 k, .int .i64 s, .slice P n c]] w (EncPost k s p w) := by
  subst hn
  unfold EncPost encE encL
  by_cases h : k < 1 ∨ 255 < k ∨ s < 1 ∨ 4294967295 < s
  · simp only [if_pos h]
    refine (refencode_range k s P p.length c h w).mono ?_
    rintro e w' ⟨rfl, hB⟩
    exact ⟨none, 0, rfl, Own.nil_ _ _ _ _, hB⟩
  · simp only [if_neg h]
    by_cases h5 : 4096 < p.length
    · simp only [if_pos h5]
      refine (refencode_long k s P p.length c (by omega) (by omega) (by omega) (by omega) h5 h63 w).mono ?_
      rintro e w' ⟨rfl, hB⟩
      exact ⟨none, 0, rfl, Own.nil_ _ _ _ _, hB⟩
    · simp only [if_neg h5]
      obtain ⟨k', rfl⟩ : ∃ k' : Nat, k = k' := ⟨k.toNat, by omega⟩
      obtain ⟨s', rfl⟩ : ∃ s' : Nat, s = s' := ⟨s.toNat, by omega⟩
      exact refencode_ok k' s' P c p (by omega) (by omega) (by omega) (by omega) (by omega) w hR
end Go.Proofs.Ytejoofeoffehmaa

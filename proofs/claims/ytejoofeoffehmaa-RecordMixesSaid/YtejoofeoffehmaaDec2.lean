/- Contracts: the methods of 'bytes': take, number. -/
import Derived.Test.YtejoofeoffehmaaDec1
namespace Go.Proofs.Ytejoofeoffehmaa
open Go.RowKit

theorem getNat_append (xs : List UInt8) (x : UInt8) : getNat (xs ++ [x]) = getNat xs + 256 ^ xs.length * x.toNat := by
  induction xs with
  | nil => simp [getNat]
  | cons y ys ih =>
    show y.toNat + 256 * getNat (ys ++ [x]) = y.toNat + 256 * getNat ys + 256 ^ (ys.length + 1) * x.toNat
    rw [ih, Nat.pow_succ, Nat.mul_add, Nat.mul_comm (256 ^ ys.length) 256, Nat.mul_assoc]
    omega
theorem getNat_or (xs : List UInt8) (x : UInt8) (h : xs.length < 7) : bits .or .i64 (getNat xs : Int) ((256 ^ xs.length * x.toNat : Nat) : Int) = ((getNat (xs ++ [x]) : Nat) : Int) := by
  have h1 := getNat_lt xs
  have hx := x.toNat_lt
  have h2 : (256 : Nat) ^ xs.length ≤ 256 ^ 6 := Nat.pow_le_pow_right (by decide) (by omega)
  have h3 : 256 ^ xs.length * x.toNat ≤ 256 ^ 6 * 255 := Nat.mul_le_mul h2 (by omega)
  have e : (256 : Nat) ^ xs.length = 2 ^ (8 * xs.length) := by rw [Nat.pow_mul]
  rw [or_i64 _ _ (by omega) (by omega), e, or_join _ _ _ (by rw [← e]; exact h1), ← e, getNat_append]

theorem shl_val (x : UInt8) (k : Nat) (hk : k < 7) : wrap64 (wrap64 (x.toNat : Int) * 2 ^ (8 * k)) = ((256 ^ k * x.toNat : Nat) : Int) := by
  have hx := x.toNat_lt
  have h2 : (256 : Nat) ^ k ≤ 256 ^ 6 := Nat.pow_le_pow_right (by decide) (by omega)
  have h3 : 256 ^ k * x.toNat ≤ 256 ^ 6 * 255 := Nat.mul_le_mul h2 (by omega)
  have e1 : wrap64 (x.toNat : Int) = (x.toNat : Int) := IntWalk.wrap64_in _ (by omega)
  have e2 : (x.toNat : Int) * 2 ^ (8 * k) = ((256 ^ k * x.toNat : Nat) : Int) := by
    rw [Int.pow_mul, Int.natCast_mul, Int.natCast_pow, Int.mul_comm]; rfl
  rw [e1, e2]
  exact IntWalk.wrap64_in _ (by omega)

theorem take_any (g b o m c n : Nat) (hn : n ≤ m) (hm : m ≤ c) (h63 : c ≤ 9223372036854775807) (w : World) (hc : w.cell? ⟨g, 0, none⟩ = some (.slice (some ⟨b, o, none⟩) m c)) (hf : w.frozen? ⟨g, 0, none⟩ = false) :
    Calls Try.prog 41 #[.pointer (some ⟨g, 0, none⟩), .int .i64 n] w fun e w' => e = .returned (.slice (some ⟨b, o, none⟩) n c) ∧ w' = w.setCell ⟨g, 0, none⟩ (.slice (some ⟨b, if c = n then o else o + n, none⟩) (m - n) (c - n)) := by
  have h0 : (0 : Int) ≤ (n : Int) := by omega
  have h1 : (n : Int) ≤ (m : Int) := by omega
  have h2 : (n : Int) ≤ (c : Int) := by omega
  have h3 : (m : Int) ≤ (c : Int) := by omega
  by_cases hz : c = 0
  · obtain rfl : n = 0 := by omega
    obtain rfl : m = 0 := by omega
    subst hz
    go_enter Try.func41, Try.ntmps41
    go_wp2_with fail
    go_ret
    exact ⟨rfl, by simp⟩
  · by_cases hcn : c = n
    · subst hcn
      obtain rfl : m = c := by omega
      go_enter Try.func41, Try.ntmps41
      go_wp2_with fail
      go_ret
      exact ⟨rfl, by simp⟩
    · by_cases hn0 : n = 0
      · subst hn0
        go_enter Try.func41, Try.ntmps41
        go_wp2_with fail
        go_ret
        exact ⟨rfl, by simp⟩
      · go_enter Try.func41, Try.ntmps41
        go_wp2_with fail
        go_ret
        exact ⟨rfl, by simp [hcn]⟩

theorem rangeAt_set {w : World} {b o : Nat} {xs : List Value} (h : w.rangeAt b o xs) (p : Addr) (hp : b ≠ p.block) (u : Value) : (w.setCell p u).rangeAt b o xs := fun j v hv => by
  rw [World.cell?_of_block (Below.heap_setCell w p u b hp)]; exact h j v hv

set_option maxHeartbeats 400000 in
theorem bnumber_any (g b o m c n : Nat) (xs : List UInt8) (hn : n ≤ m) (hm : m ≤ c) (h63 : c ≤ 9223372036854775807) (hn7 : n ≤ 7) (hl : xs.length = m) (hbg : b ≠ g) (w : World) (hc : w.cell? ⟨g, 0, none⟩ = some (.slice (some ⟨b, o, none⟩) m c)) (hf : w.frozen? ⟨g, 0, none⟩ = false) (hR : w.rangeAt b o (xs.map u8v)) :
    Calls Try.prog 39 #[.pointer (some ⟨g, 0, none⟩), .int .i64 n] w fun e w' => e = .returned (.int .i64 (getNat (xs.take n) : Nat)) ∧ w' = w.setCell ⟨g, 0, none⟩ (.slice (some ⟨b, if c = n then o else o + n, none⟩) (m - n) (c - n)) := by
  have hR2 := rangeAt_set hR ⟨g, 0, none⟩ hbg (.slice (some ⟨b, if c = n then o else o + n, none⟩) (m - n) (c - n))
  have ht := take_any g b o m c n hn hm h63 w hc hf
  generalize w.setCell ⟨g, 0, none⟩ (.slice (some ⟨b, if c = n then o else o + n, none⟩) (m - n) (c - n)) = w1 at hR2 ht ⊢
  have HT := Lib.hid ht
  have HR := Lib.hid hR2
  clear ht hR2 hc hf hR
  go_enter Try.func39, Try.ntmps39
  go_wp2_with fail
  refine HT.out.mono ?_
  rintro e w2 ⟨rfl, rfl⟩
  go_wp2_with fail
  go_loopw [5, 12] (fun v i wr => ∃ k : Nat, k ≤ n ∧ i = .int .i64 k ∧ v = .int .i64 (getNat (xs.take k) : Nat) ∧ w2 = wr) (fun _ i _ => n - (intOf i).toNat)
  case atStart => exact ⟨0, Nat.zero_le _, rfl, rfl, rfl⟩
  case round =>
    obtain ⟨k, hk, rfl, rfl, rfl⟩ := hrel
    by_cases hlt : k < n
    · have hx : k < xs.length := by omega
      have hcell : w2.cell? ⟨b, o + k, none⟩ = some (.int .u8 (xs[k].toNat : Int)) := HR.out k _ (by rw [List.getElem?_map, List.getElem?_eq_getElem hx]; rfl)
      have htl : (xs.take k).length = k := by rw [List.length_take]; omega
      have hor := getNat_or (xs.take k) xs[k] (by omega)
      rw [htl, ← List.take_succ_eq_append_getElem hx] at hor
      have HS := Lib.hid hor
      generalize xs[k] = x at hcell HS hor
      have HV := Lib.hid (shl_val x k (by omega))
      clear hor
      go_wp2_with fail
      refine ⟨⟨k + 1, by omega, by go_num, ?_, trivial⟩, ?_⟩
      · rw [HV.out, HS.out]
      · simp [intOf]; omega
    · obtain rfl : k = n := by omega
      go_wp2_with fail
      go_ret
      exact ⟨rfl, rfl⟩
end Go.Proofs.Ytejoofeoffehmaa

/- Contracts: Clone, ContainsFunc over the bytes of a stream. -/
import Derived.Test.YtejoofeoffehmaaDec2
namespace Go.Proofs.Ytejoofeoffehmaa
open Go.RowKit

set_option maxHeartbeats 400000 in
theorem clone_any (b o n c : Nat) (xs : List UInt8) (hn : n ≤ 5000) (w : World) (hR : Reads w w.heap.size 1 (some ⟨b, o, none⟩) n (xs.map u8v)) :
    Calls Try.prog 40 #[.slice (some ⟨b, o, none⟩) n c] w fun e w' => ∃ A' c', e = .returned (.slice A' n c') ∧ Own w' w.heap.size 5 1 A' n c' (xs.map u8v) ∧ Below w.heap.size w w' := by
  have HR := Lib.hid hR
  clear hR
  have HO := Lib.hid (Own.lit (base := w.heap.size) (e := 5) (size := 1) w #[] 0 (Nat.le_refl _) (by decide) rfl)
  have hnil : ∀ w, (binOp .eql 25 (.slice (some ⟨b, o, none⟩) n c) (.slice none 0 0)).run Try.prog w = .ok (.bool false) w := fun w => by
    simp only [binOp]
    simp [run_equal_slice_nil w 25 5 (some ⟨b, o, none⟩) n c Try.underlying25]
  go_enter Try.func40, Try.ntmps40
  go_wp2_with (first
    | ((with_reducible show Go.wpList _ _ _ (Go.Oper.mk _ (Go.Op.call { callee := Go.Callee.builtin Go.Builtin.append, args := _, argTypes := _ }) _ _ _ _ :: _) _ _); refine wpList_app _ rfl (.tmp 5) (.tmp 6) 25 rfl 5 1 1 elemB w.heap.size _ 0 0 [] rfl HO.out w.heap.size (some ⟨b, o, none⟩) n c (xs.map u8v) rfl (HR.out.alloc (Nat.le_refl _) _) (u8v_one _) n (by omega) (xs.map u8v) rfl (by simp only [maxLen]; omega) (by omega) (by simp) ?_; intro A1 c1 w1 ho1 hg1 hl1; have hB1 : Below w.heap.size w w1 := below_app ((Below.refl _ w).alloc (Nat.le_refl _) _) (by simp) (fun k hk => (HO.out.block k hk).1) hg1))
  go_ret
  exact ⟨A1, c1, rfl, ho1, hB1⟩

theorem nonzero_any (x : UInt8) (w : World) : Calls Try.prog 43 #[.int .u8 x.toNat] w fun e w' => e = .returned (.bool (!decide (x = 0))) ∧ w = w' := by
  by_cases h : x = 0
  · subst h
    go_enter Try.func43, Try.ntmps43
    go_wp2_with fail
    go_ret
    exact ⟨rfl, rfl⟩
  · have h1 : ¬ (x.toNat : Int) = 0 := by
      intro e
      apply h
      apply UInt8.toNat_inj.1
      have : x.toNat = 0 := by omega
      simpa using this
    have hd : decide (x = 0) = false := by simp [h]
    rw [hd]
    go_enter Try.func43, Try.ntmps43
    go_wp2_with fail
    go_ret
    exact ⟨congrArg (fun b => Ending.returned (Value.bool b)) (by simpa using h1), rfl⟩

set_option maxHeartbeats 400000 in
theorem index_any (b o n c : Nat) (xs : List UInt8) (hl : xs.length = n) (h63 : n ≤ 9223372036854775807) (w : World) (hR : w.rangeAt b o (xs.map u8v)) :
    Calls Try.prog 46 #[.slice (some ⟨b, o, none⟩) n c, .func (.func 43) #[] #[]] w fun e w' => (∃ r : Int, e = .returned (.int .i64 r) ∧ decide (0 ≤ r) = !xs.all (· == 0)) ∧ w = w' := by
  have HR := Lib.hid hR
  clear hR
  have HL := Lib.hid hl
  clear hl
  go_enter Try.func46, Try.ntmps46
  go_wp2_with fail
  go_loopw [8] (fun i wr => ∃ k : Nat, k ≤ n ∧ i = .int .i64 k ∧ (xs.take k).all (· == 0) = true ∧ w = wr) (fun i _ => n - (intOf i).toNat)
  case atStart => exact ⟨0, Nat.zero_le _, rfl, rfl, rfl⟩
  case round =>
    obtain ⟨k, hk, rfl, hz, rfl⟩ := hrel
    have HZ := Lib.hid hz
    clear hz
    by_cases hlt : k < n
    · have hx : k < xs.length := by have := HL.out; omega
      have hcell : w.cell? ⟨b, o + k, none⟩ = some (.int .u8 (xs[k].toNat : Int)) := HR.out k _ (by rw [List.getElem?_map, List.getElem?_eq_getElem hx]; rfl)
      have hc1 := nonzero_any xs[k] w
      by_cases hx0 : xs[k] = 0
      · rw [decide_eq_true hx0] at hc1
        have HC := Lib.hid hc1
        have HX0 := Lib.hid hx0
        have HTK := Lib.hid (List.take_succ_eq_append_getElem hx)
        clear hc1 hx0
        generalize xs[k] = x at HC HX0 HTK hcell
        go_wp2_with (go_at_call 43; refine HC.out.mono ?_; rintro e w1 ⟨rfl, rfl⟩)
        go_roundw
        case rel => exact ⟨k + 1, by omega, by go_num, by rw [HTK.out, List.all_append, HZ.out, HX0.out]; rfl, trivial⟩
        case measure => simp [intOf]; omega
      · rw [decide_eq_false hx0] at hc1
        have HC := Lib.hid hc1
        have hall : xs.all (· == 0) = false := by
          rw [List.all_eq_false]
          exact ⟨xs[k], List.getElem_mem hx, by simpa using hx0⟩
        clear hc1 hx0
        generalize xs[k] = x at HC hcell
        go_wp2_with (go_at_call 43; refine HC.out.mono ?_; rintro e w1 ⟨rfl, rfl⟩)
        go_ret
        exact ⟨⟨k, rfl, by rw [hall]; simp⟩, rfl⟩
    · obtain rfl : k = n := by omega
      have hall : xs.all (· == 0) = true := by
        have := HZ.out
        rwa [List.take_of_length_le (by have := HL.out; omega)] at this
      go_wp2_with fail
      go_ret
      exact ⟨⟨-1, rfl, by rw [hall]; rfl⟩, rfl⟩

set_option maxHeartbeats 400000 in
theorem contains_any (b o n c : Nat) (xs : List UInt8) (hl : xs.length = n) (h63 : n ≤ 9223372036854775807) (w : World) (hR : w.rangeAt b o (xs.map u8v)) :
    Calls Try.prog 42 #[.slice (some ⟨b, o, none⟩) n c, .func (.func 43) #[] #[]] w fun e w' => e = .returned (.bool (!xs.all (· == 0))) ∧ w = w' := by
  have hi := index_any b o n c xs hl h63 w hR
  have HI := Lib.hid hi
  clear hi
  go_enter Try.func42, Try.ntmps42
  go_wp2_with (go_at_call 46; refine HI.out.mono ?_; rintro e w1 ⟨⟨r, rfl, hr⟩, rfl⟩)
  go_ret
  exact ⟨by rw [← hr]; rfl, rfl⟩
end Go.Proofs.Ytejoofeoffehmaa

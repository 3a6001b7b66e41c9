/- Contracts: Same, fit. -/
import Derived.Test.YtejoofeoffehmaaDec9
import Derived.Laws.BytesArg
namespace Go.Proofs.Ytejoofeoffehmaa
open Go.RowKit

/-- The string of bytes. -/
def str (xs : List UInt8) : ByteArray := ⟨xs.toArray⟩
theorem str_inj {xs ys : List UInt8} : str xs = str ys ↔ xs = ys := by
  unfold str
  constructor
  · intro h
    injection h with h
    exact Array.toList_inj.2 h |> fun h => by simpa using h
  · rintro rfl; rfl
theorem str_toList (xs : List UInt8) : (str xs).toList = xs := by unfold str; simp
theorem run_str (w : World) (A : Option Addr) (n c B : Nat) (xs : List UInt8) (hn : xs.length = n) (h : RB w B A xs) :
    (convert 25 9 (.slice A n c)).run Try.prog w = .ok (.string (str xs)) w := by
  subst hn
  by_cases h0 : xs.length = 0
  · have : xs = [] := List.length_eq_zero_iff.1 h0
    subst this
    rw [run_convert_bytes_string w _ _ 5 A _ c Try.underlying25 Try.underlying5 Try.underlying9]
    cases A with
    | none => simp [Conv.bytesToString, str, ByteArray.empty, ByteArray.emptyWithCapacity]; rfl
    | some a =>
      rw [run_bytesToString w a _ c [] (by
        have := run_loadCells_list (P := Try.prog) w a [] (fun j v hj => by simp at hj)
        simpa using this)]
      rfl
  · obtain ⟨b, o, rfl, _, hc⟩ := h.2 (by omega)
    rw [run_convert_bytes_arg w 25 5 Try.underlying25 Try.underlying5 b o xs.length c (xs.map fun x => (x.toNat : Int)) (by simp) (fun i hi => by
      have := hc i (u8v xs[i]) (by simp [List.getElem?_eq_getElem hi])
      rw [this]
      simp [List.getD, List.getElem?_eq_getElem hi, u8v]) _ Try.underlying9]
    congr 2
    simp [strOfNums, str]
    conv => rhs; rw [← List.map_id xs]
    apply List.map_congr_left
    intro x _
    simp

def RecV (k s : Int) (P : Option Addr) (n c : Nat) : Value := .agg #[.int .i64 k, .int .i64 s, .slice P n c]
attribute [local irreducible] Blk str
set_option maxRecDepth 100000 in
set_option maxHeartbeats 400000 in
theorem rsame_any (k1 s1 : Int) (P1 : Option Addr) (n1 c1 : Nat) (xs1 : List UInt8) (k2 s2 : Int) (P2 : Option Addr) (n2 c2 : Nat) (xs2 : List UInt8) (hn1 : xs1.length = n1) (hn2 : xs2.length = n2)
    (w : World) (r1 : RB w w.heap.size P1 xs1) (r2 : RB w w.heap.size P2 xs2) :
    Calls Try.prog 19 #[.agg #[.int .i64 k1, .int .i64 s1, .slice P1 n1 c1], .agg #[.int .i64 k2, .int .i64 s2, .slice P2 n2 c2]] w fun e w' => e = .returned (.bool (decide (k1 = k2 ∧ s1 = s2 ∧ xs1 = xs2))) ∧ Below w.heap.size w w' := by
  obtain ⟨W, hW⟩ : ∃ W, (w.alloc (.cells #[.int .i64 k1, .int .i64 s1, .slice P1 n1 c1] 27)).alloc (.cells #[.int .i64 k2, .int .i64 s2, .slice P2 n2 c2] 27) = W := ⟨_, rfl⟩
  have hB : Below w.heap.size w W := by rw [← hW]; exact ((Below.refl _ w).alloc (Nat.le_refl _) _).alloc (by simp) _
  have b1 : Blk W w.heap.size 27 #[.int .i64 k1, .int .i64 s1, .slice P1 n1 c1] := by rw [← hW]; exact (Blk.new _ _ _).alloc _
  have b2 : Blk W (w.heap.size + 1) 27 #[.int .i64 k2, .int .i64 s2, .slice P2 n2 c2] := by
    rw [← hW]
    have := Blk.new (w.alloc (.cells #[.int .i64 k1, .int .i64 s1, .slice P1 n1 c1] 27)) 27 #[.int .i64 k2, .int .i64 s2, .slice P2 n2 c2]
    simpa using this
  have m0 := b1.cell_of (i := 0) rfl
  have m1 := b1.cell_of (i := 1) rfl
  have m2 := b1.cell_of (i := 2) rfl
  have l0 := b2.cell_of (i := 0) rfl
  have l1 := b2.cell_of (i := 1) rfl
  have l2 := b2.cell_of (i := 2) rfl
  have v1 := run_str W P1 n1 c1 w.heap.size xs1 hn1 (r1.below hB)
  have v2 := run_str W P2 n2 c2 w.heap.size xs2 hn2 (r2.below hB)
  have hs1 := str_toList xs1
  have hs2 := str_toList xs2
  generalize str xs1 = t1 at v1 hs1
  generalize str xs2 = t2 at v2 hs2
  have H1 := Lib.hid hs1
  have H2 := Lib.hid hs2
  clear b1 b2 r1 r2 hs1 hs2
  go_enter Try.func19, Try.ntmps19
  by_cases hk : k1 = k2
  · have d1 : (k1 == k2) = true := by simp [hk]
    have d1' : decide (k1 = k2) = true := by simp [hk]
    have HK := Lib.hid hk
    clear hk
    by_cases hs : s1 = s2
    · have d2 : (s1 == s2) = true := by simp [hs]
      have d2' : decide (s1 = s2) = true := by simp [hs]
      have HS := Lib.hid hs
      clear hs
      by_cases hx : xs1 = xs2
      · have d3 : (t1.toList == t2.toList) = true := by rw [H1.out, H2.out]; simp [hx]
        have hr : decide (k1 = k2 ∧ s1 = s2 ∧ xs1 = xs2) = true := decide_eq_true ⟨HK.out, HS.out, hx⟩
        rw [hr]
        clear hx hr
        go_wp2_with fail
        go_ret
        exact ⟨rfl, hB⟩
      · have d3 : (t1.toList == t2.toList) = false := by rw [H1.out, H2.out]; simp [hx]
        have hr : decide (k1 = k2 ∧ s1 = s2 ∧ xs1 = xs2) = false := decide_eq_false (fun h => hx h.2.2)
        rw [hr]
        clear hx hr
        go_wp2_with fail
        go_ret
        exact ⟨rfl, hB⟩
    · have d2 : (s1 == s2) = false := by simp [hs]
      have d2' : decide (s1 = s2) = false := by simp [hs]
      have hr : decide (k1 = k2 ∧ s1 = s2 ∧ xs1 = xs2) = false := decide_eq_false (fun h => hs h.2.1)
      rw [hr]
      clear hs hr
      go_wp2_with fail
      go_ret
      exact ⟨rfl, hB⟩
  · have d1 : (k1 == k2) = false := by simp [hk]
    have d1' : decide (k1 = k2) = false := by simp [hk]
    have hr : decide (k1 = k2 ∧ s1 = s2 ∧ xs1 = xs2) = false := decide_eq_false (fun h => hk h.1)
    rw [hr]
    clear hk hr
    go_wp2_with fail
    go_ret
    exact ⟨rfl, hB⟩
end Go.Proofs.Ytejoofeoffehmaa

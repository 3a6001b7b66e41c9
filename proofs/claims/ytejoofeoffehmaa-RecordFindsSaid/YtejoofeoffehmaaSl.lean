/- Contract: SameList of equal lists. -/
import Derived.Test.YtejoofeoffehmaaScan
import Derived.Test.YtejoofeoffehmaaSm
namespace Go.Proofs.Ytejoofeoffehmaa
open Go.RowKit

theorem range3 {w : World} {b o : Nat} {a0 a1 a2 : Value} (h : w.rangeAt b o [a0, a1, a2]) :
    w.cell? ⟨b, o, none⟩ = some a0 ∧ w.cell? ⟨b, o + 1, none⟩ = some a1 ∧ w.cell? ⟨b, o + 2, none⟩ = some a2 := ⟨h 0 _ rfl, h 1 _ rfl, h 2 _ rfl⟩

attribute [local irreducible] Blk str
set_option maxRecDepth 100000 in
set_option maxHeartbeats 400000 in
theorem samelist_any (A : Option Addr) (c : Nat) (B : Option Addr) (d n : Nat) (rs : List Rc) (hn : rs.length = n) (h63 : n ≤ 1000000) (w : World) (rx : RR w w.heap.size A rs) (ry : RR w w.heap.size B rs) :
    Calls Try.prog 23 #[.slice A n c, .slice B n d] w fun e w' => e = .returned (.bool true) ∧ Below w.heap.size w w' := by
  have RX := Lib.hid rx
  have RY := Lib.hid ry
  have HN := Lib.hid hn
  clear rx ry hn
  go_enter Try.func23, Try.ntmps23
  go_wp2_with fail
  go_loopw [5] (fun i wr => ∃ k : Nat, k ≤ n ∧ i = .int .i64 k ∧ Below w.heap.size w wr) (fun i _ => n - (intOf i).toNat)
  case atStart => exact ⟨0, Nat.zero_le _, rfl, Below.refl _ _⟩
  case round =>
    obtain ⟨k, hk, rfl, hB⟩ := hrel
    by_cases hlt : k < n
    · obtain ⟨b1, o1, P1, c1, hA, hb1, hc1, hr1⟩ := ((RX.out.below hB).more hB.size).at_ (i := k) (by rw [HN.out]; exact hlt)
      obtain ⟨b2, o2, P2, c2, hA', hb2, hc2, hr2⟩ := ((RY.out.below hB).more hB.size).at_ (i := k) (by rw [HN.out]; exact hlt)
      subst hA hA'
      generalize rs[k]'(by rw [HN.out]; exact hlt) = r at hc1 hc2 hr1 hr2
      obtain ⟨kk, q, p⟩ := r
      have h0 : (0 : Int) ≤ (k : Int) := by omega
      have hi1 : (k : Int) < (n : Int) := by omega
      obtain ⟨p0, p1, p2⟩ := range3 hc1
      obtain ⟨q0, q1, q2⟩ := range3 hc2
      have e0 : ∀ w', Below wr.heap.size wr w' → w'.cell? ⟨b1, o1 + k * 3, none⟩ = some (.int .i64 kk) := fun w' h => (h.cell (p := ⟨b1, o1 + k * 3, none⟩) hb1).trans p0
      have e1 : ∀ w', Below wr.heap.size wr w' → w'.cell? ⟨b1, o1 + k * 3 + 1, none⟩ = some (.int .i64 q) := fun w' h => (h.cell (p := ⟨b1, o1 + k * 3 + 1, none⟩) hb1).trans p1
      have e2 : ∀ w', Below wr.heap.size wr w' → w'.cell? ⟨b1, o1 + k * 3 + 2, none⟩ = some (.slice P1 p.length c1) := fun w' h => (h.cell (p := ⟨b1, o1 + k * 3 + 2, none⟩) hb1).trans p2
      have f0 : ∀ w', Below wr.heap.size wr w' → w'.cell? ⟨b2, o2 + k * 3, none⟩ = some (.int .i64 kk) := fun w' h => (h.cell (p := ⟨b2, o2 + k * 3, none⟩) hb2).trans q0
      have f1 : ∀ w', Below wr.heap.size wr w' → w'.cell? ⟨b2, o2 + k * 3 + 1, none⟩ = some (.int .i64 q) := fun w' h => (h.cell (p := ⟨b2, o2 + k * 3 + 1, none⟩) hb2).trans q1
      have f2 : ∀ w', Below wr.heap.size wr w' → w'.cell? ⟨b2, o2 + k * 3 + 2, none⟩ = some (.slice P2 p.length c2) := fun w' h => (h.cell (p := ⟨b2, o2 + k * 3 + 2, none⟩) hb2).trans q2
      have hs : ∀ w', Below wr.heap.size wr w' → Calls Try.prog 19 #[.agg #[.int .i64 kk, .int .i64 q, .slice P1 p.length c1], .agg #[.int .i64 kk, .int .i64 q, .slice P2 p.length c2]] w' fun e w'' => e = .returned (.bool true) ∧ Below w'.heap.size w' w'' := fun w' h => by
        have h1 := rsame_any kk q P1 p.length c1 p kk q P2 p.length c2 p rfl rfl w' (Reads.more (Reads.below hr1 h) h.size) (Reads.more (Reads.below hr2 h) h.size)
        rw [decide_eq_true ⟨rfl, rfl, rfl⟩] at h1
        exact h1
      have HS := Lib.hid hs
      have hbr := (Below.refl wr.heap.size wr).drew
      clear hs p0 p1 p2 q0 q1 q2 hc1 hc2 hr1 hr2
      go_wp2_with fail
      go_region_held3 (fun w' => Below wr.heap.size wr w')
        (first | assumption | exact hbr)
        (first
          | (go_at_call 19; refine (HS.out _ (by first | assumption | exact hbr)).mono ?_; rintro e w6 ⟨rfl, hB6⟩; have hN6 : Below wr.heap.size wr w6 := below_next (by first | assumption | exact hbr) hB6))
      clear e0 e1 e2 f0 f1 f2
      go_wp2_with fail
      go_roundw
      case rel => exact ⟨k + 1, by omega, by go_num, hB.trans (hN6.mono hB.size)⟩
      case measure => simp [intOf]; omega
    · go_wp2_with fail
      go_ret
      exact ⟨rfl, hB⟩
end Go.Proofs.Ytejoofeoffehmaa

/- Contract: the digest over an iterator. -/
import Derived.Test.YtphackphganglaaRows
import Derived.Test.YtphackphganglaaMem
import Derived.Test.YtphackphganglaaDig
import Derived.RangeFuncNested
import Derived.RangeFuncBound
import Derived.RangeFuncCalls
import Derived.RangeFuncLeaves
import Derived.Shelf.Abstract
import Derived.Shelf.RegionOpen
import Derived.OwnWalkIn
import Derived.TacticsInMore
import Derived.LoopNIn
import Derived.LoopIn
namespace Go.Proofs.Ytphackphganglaa
open Go.RowKit Go.Shelf
attribute [local go_sem] Oper.semAt_some
set_option maxRecDepth 100000 in
set_option maxHeartbeats 2000000 in
theorem digest_in (n : Nat) (hn : 3 ≤ n) (gf : Nat) (lb : Array Value) (bs : List UInt8) (w : World)
    (hen : ∀ args w, (callFunc gf args).run Try.prog w = .ok (.enter gf args) w)
    (hseq : SeqStopsK Fence.wide (n - 1) Try.prog gf lb (fun x : UInt8 => #[.int .u8 x.toNat]) (Below w.heap.size) (fun ys => ys = bs) (fun _ => True) bs.length w) :
    CallsIn Fence.wide n Try.prog 23 #[.func (.func gf) #[] lb] w fun e w' => e = .returned (.int .u64 (dig bs).toNat) ∧ Below w.heap.size w w' := by
  have h1 : 1 ≤ n := by omega
  refine callsIn_of_wp_marks Try.func23 rfl trivial ?_ rfl
  simp only [Try.ntmps23, List.size_toArray, List.length_cons, List.length_nil, Nat.reduceAdd, Nat.reduceSub, Array.replicate_succ, Array.replicate_zero, List.push_toArray, List.append_toArray, List.nil_append, List.cons_append]
  gi_wp2
  have hblk := Blk.new w 34 #[.int .u64 14695981039346656037]
  have hs0 := hblk.cell_of (i := 0) rfl
  have hs1 := hblk.frozen 0
  clear hblk
  have hB0 : Below w.heap.size w (w.alloc (.cells #[.int .u64 14695981039346656037] 34)) := (Below.refl _ w).alloc (Nat.le_refl _) _
  refine wpIn_rangeFunc_ownF rfl h1 (gf := gf) (lb := lb) rfl trivial hen hseq belowK_t (belowK_b (by simp)) hB0 (fun _ => rfl)
    (fun pre W => (W.cell? ⟨w.heap.size, 0, none⟩ = some (.int .u64 (digs pre).toNat) ∧ W.frozen? ⟨w.heap.size, 0, none⟩ = false) ∧ Below w.heap.size w W)
    (fun _ _ _ => False)
    (OwnFrom.and (Own.from (fun s A B row hs hg hr => ⟨cell_kept hs.1 hg hr, (frozen_kept hs.1 hg hr).trans hs.2⟩) _) (ownFrom_below (Nat.le_refl _) (by simp)))
    (fun _ _ _ _ _ hs _ _ => hs)
    ⟨⟨hs0, hs1⟩, hB0⟩
    (fun x => { tmps := #[.func (.func gf) #[] lb, undef, .int .u64 0, .pointer (some ⟨w.heap.size, 0, none⟩), .int .u8 x.toNat, .func (.func gf) #[] lb, .int .u8 x.toNat, undef, undef, undef, undef, undef, undef, undef, undef, undef], defers := [] }) ?assign ?body ?done ?stop
  case assign =>
    intro l x W K hK
    clear hen hseq
    gi_wp2
    exact hK
  case body =>
    rintro l pre x W ⟨⟨hc, hf⟩, hB⟩ _
    clear hen hseq
    gi_wp2
    exact ⟨KeepsOthers.setCell _ _ _, (Below.refl w.heap.size W).setCell (p := ⟨w.heap.size, 0, none⟩) (Nat.le_refl _) _,
      ⟨by rw [digs_snoc, dig_step_val]; exact World.cell?_setCell_same' _ _ _ (by rw [hc]; rfl), by rw [World.frozen?_setCell]; exact hf⟩,
      hB.setCell (p := ⟨w.heap.size, 0, none⟩) (Nat.le_refl _) _⟩
  case done =>
    rintro D ys W hD rfl ⟨⟨hc, _⟩, hB⟩ hK
    clear hen hseq
    have he := dig_end_val (digs ys)
    gi_wp2
    refine ⟨by simp, .inl ⟨_, _, rfl, run_takeDeferred hK, ?_⟩⟩
    exact ⟨_, results_tmp rfl _ _ _, rfl, hB.trans (belowK_b (w := w) (Nat.le_refl _) W D _ _ (by simp at hD; omega) hK rfl rfl)⟩
  case stop =>
    rintro D c pre W _ _ h _
    exact h.elim
end Go.Proofs.Ytphackphganglaa

/- Contract: the iterator of slices.Chunk by four bytes. -/
import Derived.Test.YtejoofeoffehmaaRec2
import Derived.Test.YtejoofeoffehmaaMem
import Derived.RangeFuncNested
import Derived.RangeFuncBound
import Derived.RangeFuncCalls
import Derived.RangeFuncLeaves
import Derived.Shelf.Abstract
import Derived.Shelf.RegionOpen
import Derived.OwnWalkIn
import Derived.TacticsInMore
import Derived.LoopNIn
import Derived.LoopIn
namespace Go.Proofs.Ytejoofeoffehmaa
open Go.RowKit Go.Shelf
attribute [local go_sem] Oper.semAt_some

def chunkV (b L j : Nat) : Value := .slice (some ⟨b, 4 * j, none⟩) (min 4 (L - 4 * j)) (min 4 (L - 4 * j))

/-- What a round keeps for the iterator: its two variables. -/
def Keep2 (b n : Nat) (A B : World) : Prop := B.heap[b]? = A.heap[b]? ∧ B.heap[n]? = A.heap[n]?
theorem Keep2.refl (b n : Nat) (A : World) : Keep2 b n A A := ⟨rfl, rfl⟩
theorem Keep2.trans {b n : Nat} {A B C : World} (h : Keep2 b n A B) (k : Keep2 b n B C) : Keep2 b n A C := ⟨k.1.trans h.1, k.2.trans h.2⟩
theorem Keep2.below {b n B0 : Nat} {A B : World} (h : Below B0 A B) (hb : b < B0) (hn : n < B0) : Keep2 b n A B := ⟨h.block b hb, h.block n hn⟩
theorem keep2_b {w : World} {b n : Nat} (hb : b < w.heap.size) (hn : n < w.heap.size) (W : World) (l : Nat) (o o' : Obj) (hl : w.heap.size ≤ l) (_h1 : W.heap[l]? = some o) (_h2 : o.isCells = false) (_h3 : o.isWalk = false) : Keep2 b n W (W.putObj l o') :=
  ⟨World.putObj_heap_other (by omega), World.putObj_heap_other (by omega)⟩

theorem fin_take (N k : Nat) (h : k < N) : (List.finRange N).take (k + 1) = (List.finRange N).take k ++ [⟨k, h⟩] := by
  rw [List.take_succ_eq_append_getElem (by simpa using h)]; simp
theorem fin_map {β : Type} (N : Nat) (f : Nat → β) : (List.finRange N).map (fun x => f x.val) = (List.range N).map f := by
  apply List.ext_getElem <;> simp

set_option maxRecDepth 100000 in
set_option maxHeartbeats 2000000 in
theorem chunk_iter (n : Nat) (hn : 1 ≤ n) (l Bs Ns b L c N : Nat) (hN : N = (L + 3) / 4) (J Jx : List (Fin N) → World → Prop)
    (hJab : ∀ s W W', J s W → W.grownBy W' none → J s W')
    (hY : ∀ pre x W, J pre W → pre.length < N → YieldAt Fence.wide (n - 1) Try.prog l #[chunkV b L x.val] W fun e W' =>
      (e = .returned (.bool true) ∧ J (pre ++ [x]) W' ∧ Keep2 Bs Ns W W') ∨ (e = .returned (.bool false) ∧ Jx (pre ++ [x]) W'))
    (W : World) (hBs : Blk W Bs 25 #[.slice (some ⟨b, 0, none⟩) L c]) (hNs : Blk W Ns 3 #[.int .i64 4]) (hL : L ≤ c) (_hl : c ≤ 9223372036854775807) (hl2 : L ≤ 9223372036854775800) (h0 : J [] W) :
    CallsIn Fence.wide n Try.prog 35 #[.func (.yield l) #[] #[], .pointer (some ⟨Bs, 0, none⟩), .pointer (some ⟨Ns, 0, none⟩)] W fun e W' => (∃ v, e = .returned v) ∧
      ((∃ ys, ys = List.finRange N ∧ J ys W') ∨ (∃ pre, True ∧ Jx pre W')) := by
  refine callsIn_of_wp Try.func35 rfl trivial ?_ rfl
  simp only [Try.ntmps35, List.size_toArray, List.length_cons, List.length_nil, Nat.reduceAdd, Nat.reduceSub, Array.replicate_succ, Array.replicate_zero, List.push_toArray, List.append_toArray, List.nil_append, List.cons_append]
  have HY := Lib.hid hY
  have H0 := Lib.hid h0
  have HA := Lib.hid hJab
  clear hY h0 hJab
  gi_wp2
  gi_loopw [4] (fun i wr => ∃ k : Nat, k ≤ N ∧ i = .int .i64 ((4 * k : Nat) : Int) ∧ J ((List.finRange N).take k) wr ∧ Keep2 Bs Ns W wr)
    (fun i _ => L + 3 - (intOf i).toNat)
  case atStart => exact ⟨0, Nat.zero_le _, rfl, H0.out, Keep2.refl _ _ _⟩
  case round =>
    obtain ⟨k, hk, rfl, hJs, hnx⟩ := hrel
    have hb := Blk.cell_of (show Blk wr Bs _ _ from hnx.1.trans hBs) (i := 0) rfl
    have hnn := Blk.cell_of (show Blk wr Ns _ _ from hnx.2.trans hNs) (i := 0) rfl
    by_cases hlt : 4 * k < L
    · have HJ := Lib.hid hJs
      clear hJs
      have hik : ((4 * k : Nat) : Int) = 4 * (k : Int) := by omega
      gi_wp2
      gi_region
      have hif : (if ((L - 4 * k : Nat) : Int) < 4 then ((L - 4 * k : Nat) : Int) else 4) = ((min 4 (L - 4 * k) : Nat) : Int) := by split <;> omega
      rw [hif]
      obtain ⟨fn, tmps, assign, body, hy, hRd⟩ := HY.out _ ⟨k, by omega⟩ wr.drew (HA.out _ _ _ HJ.out ⟨rfl, rfl, rfl, Nat.le_refl _, fun _ _ _ => rfl⟩) (by simp; omega)
      unfold chunkV at hy
      have hmL : min 4 (L - 4 * k) ≤ L - 4 * k := Nat.min_le_right _ _
      have hm1 : 1 ≤ min 4 (L - 4 * k) := by omega
      have hm4 : min 4 (L - 4 * k) ≤ 4 := by omega
      have HM := Lib.hid (show L ≤ 4 * k + min 4 (L - 4 * k) ∨ min 4 (L - 4 * k) = 4 by omega)
      generalize min 4 (L - 4 * k) = m at *
      clear hif
      have hbd : Keep2 Bs Ns W wr.drew := hnx
      gi_wp2
      refine hRd.mono ?_
      rintro e W3 (⟨rfl, hJ3, hk3⟩ | ⟨rfl, hJx3⟩)
      · have hnn3 := Blk.cell_of (show Blk W3 Ns _ _ from hk3.2.trans (hnx.2.trans hNs)) (i := 0) rfl
        gi_wp2
        go_roundw
        case rel => exact ⟨k + 1, by omega, by simp; omega, by rw [fin_take N k (by omega)]; exact hJ3, hbd.trans hk3⟩
        case measure => simp [intOf]; omega
      · gi_wp2
        refine bodyPost_ret (results_none rfl _ _ _) rfl ?_
        exact ⟨⟨_, rfl⟩, .inr ⟨_, trivial, hJx3⟩⟩
    · obtain rfl : k = N := by omega
      rw [List.take_of_length_le (by simp)] at hJs
      gi_wp2
      go_end0
      exact ⟨⟨_, rfl⟩, .inl ⟨_, rfl, hJs⟩⟩

theorem chunk_stops (n : Nat) (hn : 1 ≤ n) (Bs Ns b L c N : Nat) (hN : N = (L + 3) / 4) (w : World)
    (hBs : Blk w Bs 25 #[.slice (some ⟨b, 0, none⟩) L c]) (hNs : Blk w Ns 3 #[.int .i64 4]) (hL : L ≤ c) (hl : c ≤ 9223372036854775807) (hl2 : L ≤ 9223372036854775800) :
    SeqStopsK Fence.wide n Try.prog 35 #[.pointer (some ⟨Bs, 0, none⟩), .pointer (some ⟨Ns, 0, none⟩)] (fun x : Fin N => #[chunkV b L x.val]) (Keep2 Bs Ns) (fun ys => ys = List.finRange N) (fun _ => True) N w :=
  fun l J Jx W hW hJ _ hY h0 =>
    chunk_iter n hn l Bs Ns b L c N hN J Jx (fun s A B hs hg => hJ s A B none hs hg (fun r e => by cases e)) hY W (hBs.below hW hBs.lt) (hNs.below hW hNs.lt) hL hl hl2 h0

theorem enter_chunk : ∀ (args : Array Value) (w : World), (callFunc 35 args).run Try.prog w = .ok (.enter 35 args) w :=
  enters_of Try.func35 (by kernel_rfl) rfl

theorem chunk_call (A : Option Addr) (L c : Nat) (w : World) :
    Calls Try.prog 26 #[.slice A L c, .int .i64 4] w fun e w' => e = .returned (.func (.func 35) #[] #[.pointer (some ⟨w.heap.size, 0, none⟩), .pointer (some ⟨w.heap.size + 1, 0, none⟩)]) ∧
      w' = (w.alloc (.cells #[.slice A L c] 25)).alloc (.cells #[.int .i64 4] 3) := by
  go_enter Try.func26, Try.ntmps26
  go_wp2_with fail
  go_ret
  exact ⟨rfl, rfl⟩
end Go.Proofs.Ytejoofeoffehmaa

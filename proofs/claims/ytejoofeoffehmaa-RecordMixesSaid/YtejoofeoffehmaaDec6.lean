/- Contract: Decode. -/
import Derived.Test.YtejoofeoffehmaaDec5
namespace Go.Proofs.Ytejoofeoffehmaa
open Go.RowKit

/-- What Decode gives: the error, the record's kind, number and payload, the number of sectors. -/
structure Dec where
  err : Nat
  kind : Nat
  seq : Nat
  payload : List UInt8
  n : Nat
def dec (ss : List Sec) : Dec :=
  if begErr ss ≠ 0 then ⟨begErr ss, 0, 0, [], 0⟩
  else match ss with
    | [] => ⟨10, 0, 0, [], 0⟩
    | s :: _ =>
      if ¬ sumOk (streamOf (ss.take (sizeOfRec (recLen s)))) (recLen s) then ⟨9, 0, 0, [], 0⟩
      else if ¬ formOk (streamOf (ss.take (sizeOfRec (recLen s)))) (recLen s) then ⟨3, 0, 0, [], 0⟩
      else ⟨0, getNat ((streamOf (ss.take (sizeOfRec (recLen s)))).take 1), secNum s, ((streamOf (ss.take (sizeOfRec (recLen s)))).drop 3).take (recLen s), sizeOfRec (recLen s)⟩

def DecPost (ss : List Sec) (w : World) (e : Ending) (w' : World) : Prop :=
  ∃ P c, e = .returned (.tuple #[.agg #[.int .i64 ((dec ss).kind : Nat), .int .i64 ((dec ss).seq : Nat), .slice P (dec ss).payload.length c], .int .i64 ((dec ss).n : Nat), .int .i64 ((dec ss).err : Nat)]) ∧
    Own w' w.heap.size 5 1 P (dec ss).payload.length c ((dec ss).payload.map u8v) ∧ Below w.heap.size w w'

theorem zeroReader (w : World) : (zeroValue 71).run Try.prog w = .ok (.agg #[.slice none 0 0, .int .i64 0, .int .i64 0]) w := by kernel_rfl

theorem rec0_eq : rec0 = #[.int .i64 0, .int .i64 0, .slice none 0 0] := rfl
attribute [local irreducible] Blk rec0
set_option maxHeartbeats 400000 in
/-- A reader's panic comes out of Decode as its error. -/
theorem door_panics (T : Array Value) (b c : Nat) (ss : List Sec) (w w1 : World) (o0 : Array Value) (ho : o0.size = 3) (x1 x2 : Value) (ht2 : T.getD 2 undef = .pointer (some ⟨b, 0, none⟩)) (ht3 : T.getD 3 undef = .pointer (some ⟨b + 1, 0, none⟩)) (ht4 : T.getD 4 undef = .pointer (some ⟨b + 1 + 1, 0, none⟩))
    (h0 : Blk w1 b 27 o0) (h1 : Blk w1 (b + 1) 3 #[x1]) (h2 : Blk w1 (b + 1 + 1) 29 #[x2]) (hb : b = w.heap.size) (hB : Below w.heap.size w w1) (hd : dec ss = ⟨c, 0, 0, [], 0⟩) :
    bodyPostD Try.prog Try.f17 (DecPost ss w) (Exit.panic [{ v := failV c, recovered := false }])
      { tmps := T, defers := [{ target := Target.fn (Fn.func 29) #[.pointer (some ⟨b, 0, none⟩), .pointer (some ⟨b + 1, 0, none⟩), .pointer (some ⟨b + 1 + 1, 0, none⟩)], args := #[] }] } w1 := by
  refine leaves_cons (f := 29) (args := #[.pointer (some ⟨b, 0, none⟩), .pointer (some ⟨b + 1, 0, none⟩), .pointer (some ⟨b + 1 + 1, 0, none⟩)]) (by simp) (by simp [go_sem]) ?_
  refine (catch_panicking b (b + 1) (b + 1 + 1) b c o0 ho x1 x2 w1 h0 h1 h2 (by omega) (by omega) (by omega) (Nat.le_refl _) (by omega) (by omega)).mono ?_
  rintro e u' w2 ⟨rfl, rfl, r0, r1, r2, hB2⟩
  rw [rec0_eq] at r0
  have m0 : w2.cell? ⟨b, 0, none⟩ = some (.int .i64 0) := r0.cell_of (i := 0) rfl
  have m1 : w2.cell? ⟨b, 1, none⟩ = some (.int .i64 0) := r0.cell_of (i := 1) rfl
  have m2 : w2.cell? ⟨b, 2, none⟩ = some (.slice none 0 0) := r0.cell_of (i := 2) rfl
  have hl1 : w2.cell? ⟨b + 1, 0, none⟩ = some (.int .i64 0) := r1.cell_of (i := 0) rfl
  have hl2 : w2.cell? ⟨b + 1 + 1, 0, none⟩ = some (.int .i64 c) := r2.cell_of (i := 0) rfl
  simp only [Array.getD_eq_getD_getElem?] at ht2 ht3 ht4
  simp [Leaves, settle, results, Try.results17, go_sem, asAddr, m0, m1, m2, hl1, hl2, ht2, ht3, ht4]
  refine ⟨none, 0, by rw [hd]; rfl, by rw [hd]; exact Own.nil_ _ _ _ _, hB.trans (hb ▸ hB2)⟩

set_option maxHeartbeats 400000 in
theorem door_returns (T : Array Value) (b : Nat) (R : Ending → World → Prop) (w1 : World) (v0 v1 v2 x1 x2 : Value) (ht2 : T.getD 2 undef = .pointer (some ⟨b, 0, none⟩)) (ht3 : T.getD 3 undef = .pointer (some ⟨b + 1, 0, none⟩)) (ht4 : T.getD 4 undef = .pointer (some ⟨b + 1 + 1, 0, none⟩))
    (h0 : Blk w1 b 27 #[v0, v1, v2]) (h1 : Blk w1 (b + 1) 3 #[x1]) (h2 : Blk w1 (b + 1 + 1) 29 #[x2]) (hR : R (.returned (.tuple #[.agg #[v0, v1, v2], x1, x2])) w1) :
    (results Try.f17 T).run Try.prog w1 = .ok (.tuple #[.agg #[v0, v1, v2], x1, x2]) w1 := by
  have m0 : w1.cell? ⟨b, 0, none⟩ = some v0 := h0.cell_of (i := 0) rfl
  have m1 : w1.cell? ⟨b, 1, none⟩ = some v1 := h0.cell_of (i := 1) rfl
  have m2 : w1.cell? ⟨b, 2, none⟩ = some v2 := h0.cell_of (i := 2) rfl
  have hl1 : w1.cell? ⟨b + 1, 0, none⟩ = some x1 := h1.cell_of (i := 0) rfl
  have hl2 : w1.cell? ⟨b + 1 + 1, 0, none⟩ = some x2 := h2.cell_of (i := 0) rfl
  simp only [Array.getD_eq_getD_getElem?] at ht2 ht3 ht4
  simp [results, Try.results17, go_sem, asAddr, m0, m1, m2, hl1, hl2, ht2, ht3, ht4]

theorem begin_any (g : Nat) (A : Option Addr) (n c : Nat) (ss : List Sec) (hn : ss.length = n) (hc : n ≤ c) (h64 : c ≤ 9223372036854775807) (w : World) (hb : Blk w g 71 #[.slice none 0 0, .int .i64 0, .int .i64 0]) (hR : RS w g A ss) :
    Calls Try.prog 30 #[.pointer (some ⟨g, 0, none⟩), .slice A n c] w (BegPost g ss w) := by
  subst hn
  cases ss with
  | nil => exact begin_empty g A c w
  | cons s rest => exact begin_cons g A c s rest hc h64 w hb hR
end Go.Proofs.Ytejoofeoffehmaa

/- copy into a sector; a sector out of some bytes. -/
import Derived.Test.YtejoofeoffehmaaSec
import Derived.Laws.CopyOwn
import Derived.Great.BuildSlice
import Derived.Test.YtejoofeoffehmaaIn
import Derived.RangeFuncOwn
namespace Go.Proofs.Ytejoofeoffehmaa
open Go.RowKit

theorem elemSec : ElemT Try.prog 28 47 8 8 := ElemT.mk_ (z := .agg sec0) (by kernel_rfl) (by kernel_rfl) rfl (by decide)
theorem secCells_one (s : Sec) : ∀ u ∈ secCells s, u.oneCell' = true := u8v_one _
theorem secsCells_one (ss : List Sec) : ∀ u ∈ secsCells ss, u.oneCell' = true := by rw [secCells_bytes]; exact u8v_one _

/-- A sector of some bytes, with zeros behind. -/
def mkSec (xs : List UInt8) : Sec := Vector.ofFn fun i => (xs[i.val]?).getD 0
theorem mkSec_toList (xs : List UInt8) (h : xs.length ≤ 8) : (mkSec xs).toList = xs ++ List.replicate (8 - xs.length) 0 := by
  apply List.ext_getElem?
  intro i
  by_cases hi : i < 8
  · rw [List.getElem?_eq_getElem (by simpa using hi)]
    simp only [mkSec, Vector.getElem_toList, Vector.getElem_ofFn]
    by_cases hx : i < xs.length
    · rw [List.getElem?_append_left hx, List.getElem?_eq_getElem hx]; rfl
    · rw [List.getElem?_append_right (by omega), List.getElem?_replicate, if_pos (by omega), List.getElem?_eq_none (by omega)]; rfl
  · rw [List.getElem?_eq_none (by simp; omega), List.getElem?_eq_none (by simp; omega)]
theorem mkSec_nil : (secCells (mkSec [])).toArray = sec0 := by
  rw [secCells, mkSec_toList [] (by simp)]; rfl
theorem splice_sec (xs ys : List UInt8) (h : xs.length + ys.length ≤ 8) :
    (secCells (mkSec xs)).take xs.length ++ ys.map u8v ++ (secCells (mkSec xs)).drop (xs.length + ys.length) = secCells (mkSec (xs ++ ys)) := by
  rw [secCells, secCells, mkSec_toList xs (by omega), mkSec_toList (xs ++ ys) (by simp; omega)]
  rw [← List.map_take, ← List.map_drop, List.take_left', List.drop_append, List.drop_eq_nil_of_le (by omega)]
  · simp; omega
  · rfl
theorem copy_sec {B : Nat} (w : World) (g dLen dCap : Nat) (A : Option Addr) (sCap : Nat) (o : Nat) (xs ys : List UInt8) (t ty : TypeId) (n : Nat) (hg : Blk w g t (secCells (mkSec xs)).toArray) (hr : RB w B A ys) (hpos : 0 < ys.length) (hd : ys.length ≤ dLen) (hfit : xs.length + ys.length ≤ 8) (ho : o = xs.length) (hn : n = ys.length) :
    (Builtin.copy_ #[25, 25] ty #[.slice (some ⟨g, o, none⟩) dLen dCap, .slice A n sCap]).run Try.prog w = .ok (.int .i64 (n : Int)) (w.setRow g (secCells (mkSec (xs ++ ys))).toArray) := by
  subst ho hn
  obtain ⟨hl, hA⟩ := hr
  obtain ⟨b, o, rfl, _, hc⟩ := hA hpos
  rw [← splice_sec xs ys hfit]
  have := run_copy_row (P := Try.prog) w 25 25 ty 5 g xs.length dLen dCap ⟨b, o, none⟩ ys.length sCap _ t (ys.map u8v) (by kernel_rfl) (by kernel_rfl) hg (by rw [List.length_map]; exact (Nat.min_eq_left hd).symm) (fun j v hj => by have := hc j v hj; simp only [Addr.add]; split <;> simp_all) (by simp [secCells_length]; omega) (u8v_one _)
  rw [this, List.length_map]
  rfl

theorem list8 {α : Type} (l : List α) (h : l.length = 8) : ∃ a b c d e f g i, l = [a, b, c, d, e, f, g, i] := by
  match l, h with
  | [a, b, c, d, e, f, g, i], _ => exact ⟨a, b, c, d, e, f, g, i, rfl⟩
theorem run_build_sec (w : World) (s : Sec) : (Instr.buildSlice 28 1 #[(0, .agg (secCells s).toArray)]).run Try.prog w = .ok (.slice (some ⟨w.heap.size, 0, none⟩) 1 1) (w.alloc (.cells (secCells s).toArray 47)) := by
  obtain ⟨i, h1, h2, h3, _⟩ := info_parts (P := Try.prog) (e := 47) (z := .agg sec0) (size := 8) (bytes := 8) (by kernel_rfl)
  refine run_buildSlice w _ 47 1 _ _ i _ (by kernel_rfl) h1 h2 (by rw [h3]; decide) (by rw [h3]; decide) ?_
  obtain ⟨a, b, c, d, e, f, g, j, hl⟩ := list8 (secCells s) (secCells_length s)
  rw [h3, hl]
  have hz : (Array.range (1 * 8)).map (fun x => (Value.agg sec0).cells[x % (Value.agg sec0).cells.size]!) = sec0 := by kernel_rfl
  rw [hz]
  simp [Instr.fill, Value.cells, sec0]
theorem wpListIn_build_sec {F : Fence} {nf : Nat} (w : World) {ops : Array Oper} {rest : List Oper} {o : Oper} {a : Act} {Q : Exit → Act → World → Prop} (hgd : o.guard = none) (x : Operand)
    (ho : o.op = .buildSlice 28 1 #[(0, x)]) (s : Sec) (hx : a.eval x = .agg (secCells s).toArray)
    (h : wpListIn F nf Try.prog ops Q rest (a.put o.dst (.slice (some ⟨w.heap.size, 0, none⟩) 1 1)) (w.alloc (.cells (secCells s).toArray 47))) : wpListIn F nf Try.prog ops Q (o :: rest) a w := by
  refine wpListIn_plain hgd fun K hK' => ⟨?_, ?_⟩
  · intro f hf
    simp [Oper.about, ho] at hf
  · rw [Oper.semAt_plain F _ _ (by rw [ho]; intro c hc'; cases hc')]
    simp only [execOp, ho, List.map_toArray, List.map_cons, List.map_nil, hx, Sem.run_bind, run_build_sec w s, Result.andThen_ok]
    exact hK' _ _ h

theorem reads_sec (w : World) (s : Sec) : Reads (w.alloc (.cells (secCells s).toArray 47)) (w.heap.size + 1) 8 (some ⟨w.heap.size, 0, none⟩) 1 (secCells s) :=
  ⟨secCells_length s, fun _ => ⟨w.heap.size, 0, rfl, by omega, fun j u hu => by
    have := (Blk.new w 47 (secCells s).toArray).cell j
    rw [Nat.zero_add, this]
    simpa using hu⟩⟩

theorem wpList_build_sec (w : World) {ops : Array Oper} {rest : List Oper} {o : Oper} {a : Act} {Q : Exit → Act → World → Prop} (hgd : o.guard = none) (x : Operand)
    (ho : o.op = .buildSlice 28 1 #[(0, x)]) (s : Sec) (hx : a.eval x = .agg (secCells s).toArray)
    (h : wpList Try.prog ops Q rest (a.put o.dst (.slice (some ⟨w.heap.size, 0, none⟩) 1 1)) (w.alloc (.cells (secCells s).toArray 47))) : wpList Try.prog ops Q (o :: rest) a w := by
  refine wpList_plain hgd fun K hK' => ?_
  unfold Oper.wp
  simp only [execOp, ho, List.map_toArray, List.map_cons, List.map_nil, hx, Sem.run_bind, run_build_sec w s, Result.andThen_ok]
  exact hK' _ _ h
theorem mkSec_pad (xs : List UInt8) (n : Nat) : mkSec (xs ++ List.replicate n 0) = mkSec xs := by
  apply Vector.ext
  intro i hi
  simp only [mkSec, Vector.getElem_ofFn]
  by_cases hx : i < xs.length
  · rw [List.getElem?_append_left hx]
  · rw [List.getElem?_append_right (by omega), List.getElem?_eq_none (l := xs) (by omega), List.getElem?_replicate]
    split <;> rfl
theorem mkSec_set (xs : List UInt8) (q : Nat) (hq : q < xs.length) (h8 : xs.length ≤ 8) : (secCells (mkSec (xs.take q))).toArray.setIfInBounds q (u8v xs[q]) = (secCells (mkSec (xs.take (q + 1)))).toArray := by
  rw [List.setIfInBounds_toArray]
  congr 1
  rw [secCells, secCells, mkSec_toList _ (by rw [List.length_take]; omega), mkSec_toList _ (by rw [List.length_take]; omega), ← List.map_set]
  congr 1
  rw [List.take_succ_eq_append_getElem hq]
  have hl : (xs.take q).length = q := by rw [List.length_take]; omega
  rw [List.set_append, if_neg (by omega), List.length_append, hl, Nat.sub_self, show 8 - q = (8 - (q + 1)) + 1 by omega, List.replicate_succ]
  simp only [List.length_cons, List.length_nil, Nat.zero_add, List.set_cons_zero, List.append_assoc, List.cons_append, List.nil_append]

/-- 'copy' inside a fence, its run known. -/
theorem wpListIn_copy_run {F : Fence} {nf : Nat} {P : Program} (w : World) {ops : Array Oper} {rest : List Oper} {o : Oper} {a : Act} {Q : Exit → Act → World → Prop} (hgd : o.guard = none) (d x : Operand) (t t' : TypeId)
    (ho : o.op = .call { callee := .builtin .copy, args := #[d, x], argTypes := #[t, t'] }) (v u : Value) (hd : a.eval d = v) (hx : a.eval x = u) {v' : Value} {w' : World}
    (hr : (Builtin.copy_ #[t, t'] o.type #[v, u]).run P w = .ok v' w') (h : wpListIn F nf P ops Q rest (a.put o.dst v') w') : wpListIn F nf P ops Q (o :: rest) a w := by
  refine wpListIn_plain hgd fun K hK' => ?_
  unfold Oper.wpIn
  refine ⟨?_, ?_⟩
  · simp [Oper.about, ho, resolve, Target.leads, Sem.run_pure]
  · rw [Oper.semAt_plain F _ _ (by rw [ho]; intro c hc'; cases hc')]
    simp [execOp, ho, resolve, invoke, builtin, hd, hx, hr, Result.andThen]
    exact hK' _ _ h

/-- A row that is not empty lies at the beginning of a block. -/
theorem Own.some_ {w : World} {base : Nat} {e : TypeId} {size : Nat} {A : Option Addr} {n c : Nat} {xs : List Value} (h : Own w base e size A n c xs) (hn : 0 < n) : ∃ g, A = some ⟨g, 0, none⟩ := by
  rcases h.2 with ⟨h1, h2⟩ | ⟨g, cap, cur, h1, _⟩
  · injection h1 with h1 h3 h4; omega
  · injection h1 with h3; exact ⟨g, h3⟩
theorem Own.mono_ {w : World} {base base' : Nat} {e : TypeId} {size : Nat} {A : Option Addr} {n c : Nat} {xs : List Value} (h : Own w base e size A n c xs) (hb : base' ≤ base) : Own w base' e size A n c xs :=
  ⟨h.1, h.2.imp id fun ⟨g, cap, cur, h1, h2, h3⟩ => ⟨g, cap, cur, h1, Nat.le_trans hb h2, h3⟩⟩
theorem own_cells {w : World} {base : Nat} {e : TypeId} {size : Nat} {A : Option Addr} {n c : Nat} {xs : List Value} (h : Own w base e size A n c xs) (j : Nat) (o : Obj) (hj : A.map (·.block) = some j) (ho : w.heap[j]? = some o) : o.isCells = true := by
  rcases h.2 with ⟨h1, _⟩ | ⟨g, cap, cur, h1, _, h3, _⟩
  · injection h1 with h1; rw [h1] at hj; cases hj
  · injection h1 with h1; rw [h1] at hj; injection hj with hj; subst hj
    rw [h3] at ho; injection ho with ho; subst ho; rfl
theorem grownBy_setCell (w : World) (p : Addr) (u : Value) : w.grownBy (w.setCell p u) (some p.block) :=
  have h := (Below.refl 0 w).setCell (p := p) (Nat.zero_le _) u
  ⟨h.os, h.tape, h.output, h.size, fun k _ hne => Below.heap_setCell w p u k (fun e => hne (by rw [e]))⟩
theorem keepsOthers_below {W W' : World} (h : Below W.heap.size W W') : KeepsOthers W W' :=
  ⟨h.size, fun k o hk _ => (h.block k (by rcases Nat.lt_or_ge k W.heap.size with hlt | hge
                                          · exact hlt
                                          · rw [Array.getElem?_eq_none hge] at hk; cases hk)).trans hk⟩
theorem keepsOthers_setRow {W : World} {g : Nat} {t : TypeId} {cs : Array Value} (h : Blk W g t cs) (cs' : Array Value) : KeepsOthers W (W.setRow g cs') := by
  refine ⟨by simp [World.setRow], fun k o hk ho => ?_⟩
  by_cases e : k = g
  · subst e
    rw [h.row] at hk
    injection hk with hk; subst hk
    simp [Obj.isCells] at ho
  · exact (setRow_other W g k cs' e).trans hk
end Go.Proofs.Ytejoofeoffehmaa

/- Words for memory: a block that is known whole; a slice that reads as a list of cells; append onto a row of the call's own. After the words that the guide's pages offer for copying. -/
import Derived.WalkKit
import Derived.WalkSpells
import Derived.WalkLawsBesides
import Derived.Deep.AppendLies
import Derived.Deep.Draws
import Derived.Deep.MidRow
import Derived.Maps.AppendAt
import Derived.RegionTactic
import Derived.OwnWalk
namespace Go.Proofs.Ytejoofeoffehmaa
open Go.RowKit

/-! ## A block known whole -/
def Blk (w : World) (g : Nat) (t : TypeId) (cs : Array Value) : Prop := w.heap[g]? = some (.cells cs t (0, 0))

section
variable {w w' : World} {g : Nat} {t : TypeId} {cs : Array Value}
theorem Blk.row (h : Blk w g t cs) : w.heap[g]? = some (.cells cs t (0, 0)) := h
theorem Blk.lt (h : Blk w g t cs) : g < w.heap.size := by
  rcases Nat.lt_or_ge g w.heap.size with hlt | hge
  · exact hlt
  · unfold Blk at h; rw [Array.getElem?_eq_none hge] at h; cases h
theorem Blk.cell (h : Blk w g t cs) (i : Nat) : w.cell? ⟨g, i, none⟩ = cs[i]? := cell_of_row w g i cs t (0, 0) h
theorem Blk.cell_of (h : Blk w g t cs) {i : Nat} {v : Value} (hv : cs[i]? = some v) : w.cell? ⟨g, i, none⟩ = some v := (h.cell i).trans hv
theorem Blk.cell_ex (h : Blk w g t cs) {i : Nat} (hi : i < cs.size) : ∃ v, w.cell? ⟨g, i, none⟩ = some v := ⟨cs[i], h.cell_of (Array.getElem?_eq_getElem hi)⟩
theorem Blk.frozen (h : Blk w g t cs) (i : Nat) : w.frozen? ⟨g, i, none⟩ = false := by
  unfold Blk at h
  simp [World.frozen?, h]
theorem Blk.new (w : World) (t : TypeId) (cs : Array Value) : Blk (w.alloc (.cells cs t)) w.heap.size t cs := Go.heap_alloc_new w _
theorem Blk.drew (h : Blk w g t cs) : Blk w.drew g t cs := h
theorem Blk.drewN (h : Blk w g t cs) (n : Nat) : Blk (w.drewN n) g t cs := h
theorem Blk.alloc (h : Blk w g t cs) (o : Obj) : Blk (w.alloc o) g t cs := (Below.heap_alloc w o g h.lt).trans h
theorem Blk.set_ (h : Blk w g t cs) (i : Nat) (u : Value) : Blk (w.setCell ⟨g, i, none⟩ u) g t (cs.setIfInBounds i u) := by
  unfold Blk at h ⊢
  simp [World.setCell, Array.getElem?_modify, h]
theorem Blk.far (h : Blk w g t cs) {p : Addr} (hp : g ≠ p.block) (u : Value) : Blk (w.setCell p u) g t cs := (Below.heap_setCell w p u g hp).trans h
theorem Blk.setRow_ (h : Blk w g t cs) (cs' : Array Value) : Blk (w.setRow g cs') g t cs' := setRow_heap w g cs cs' t _ h
theorem Blk.setRow_far (h : Blk w g t cs) {k : Nat} (hk : g ≠ k) (cs' : Array Value) : Blk (w.setRow k cs') g t cs := (setRow_other w k g cs' hk).trans h
theorem Blk.below {B : Nat} (h : Blk w g t cs) (hb : Below B w w') (hg : g < B) : Blk w' g t cs := (hb.block g hg).trans h
theorem Blk.grown {row : Option Nat} (h : Blk w g t cs) (hb : w.grownBy w' row) (hg : some g ≠ row) : Blk w' g t cs := (hb.block g h.lt hg).trans h
theorem Blk.ne_ {g' : Nat} {t' : TypeId} {cs' : Array Value} (h : Blk w g t cs) (h' : Blk w g' t' cs') (hne : t ≠ t') : g ≠ g' := by
  rintro rfl
  unfold Blk at h h'
  rw [h] at h'
  injection h' with h'
  injection h' with _ ht
  exact hne ht
theorem own_blk_ne {base : Nat} {e : TypeId} {size n : Nat} {v : Value} {xs : List Value} (h : w.ownsRow base e size v n xs) (hg : Blk w g t cs) (hne : e ≠ t) : v.ownBlock ≠ some g := by
  rcases h.2 with ⟨rfl, _⟩ | ⟨g', cap, cur, rfl, _, hh, _⟩
  · simp [Value.ownBlock]
  · intro he
    have : g' = g := by simpa [Value.ownBlock] using he
    subst this
    exact Blk.ne_ (t := e) hh hg hne rfl
end

theorem below_setRow {B : Nat} {a w : World} (h : Below B a w) {g : Nat} (hg : B ≤ g) (cs : Array Value) : Below B a (w.setRow g cs) :=
  h.trans ⟨rfl, rfl, rfl, by simp, fun k hk => setRow_other w g k cs (by omega)⟩
theorem below_drewN {B : Nat} {a w : World} (h : Below B a w) (n : Nat) : Below B a (w.drewN n) := ⟨h.os, h.tape, h.output, h.size, h.block⟩
/-- Two calls, one behind the other. -/
theorem below_then {a b c : World} (h : Below a.heap.size a b) (k : Below b.heap.size b c) : Below a.heap.size a c := h.trans (k.mono h.size)

theorem below_next {W a b : World} (h : Below W.heap.size W a) (k : Below a.heap.size a b) : Below W.heap.size W b := h.trans (k.mono h.size)

/-! ## A slice that reads as a list of cells -/
/-- The slice value with address A and n elements of 'size' cells each reads as the cells xs, all of it below block B. -/
def Reads (w : World) (B size : Nat) (A : Option Addr) (n : Nat) (xs : List Value) : Prop :=
  xs.length = n * size ∧ (0 < n → ∃ b o, A = some ⟨b, o, none⟩ ∧ b < B ∧ w.rangeAt b o xs)

section
variable {w w' : World} {B B' size n : Nat} {A : Option Addr} {xs : List Value}
theorem Reads.len (h : Reads w B size A n xs) : xs.length = n * size := h.1
theorem Reads.none_ : Reads w B size A 0 [] := ⟨by simp, fun h => absurd h (by omega)⟩
theorem Reads.at_ {k : Nat} (h : Reads w B 1 A n xs) (hk : k < n) : ∃ b o u, A = some ⟨b, o, none⟩ ∧ b < B ∧ xs[k]? = some u ∧ w.cell? ⟨b, o + k, none⟩ = some u := by
  obtain ⟨b, o, e, hb, hc⟩ := h.2 (by omega)
  have hl : k < xs.length := by have := h.1; omega
  exact ⟨b, o, xs[k], e, hb, List.getElem?_eq_getElem hl, hc k _ (List.getElem?_eq_getElem hl)⟩
theorem Reads.keep (h : Reads w B size A n xs) (hk : ∀ p : Addr, p.block < B → w'.cell? p = w.cell? p) : Reads w' B size A n xs :=
  ⟨h.1, fun hn => by
    obtain ⟨b, o, e, hb, hc⟩ := h.2 hn
    exact ⟨b, o, e, hb, fun j u hu => (hk _ hb).trans (hc j u hu)⟩⟩
theorem Reads.more (h : Reads w B size A n xs) (hB : B ≤ B') : Reads w B' size A n xs :=
  ⟨h.1, fun hn => by
    obtain ⟨b, o, e, hb, hc⟩ := h.2 hn
    exact ⟨b, o, e, by omega, hc⟩⟩
theorem Reads.below (h : Reads w B size A n xs) (hb : Below B w w') : Reads w' B size A n xs := h.keep fun _ hp => hb.cell hp
/-- What read before a call reads behind it. -/
theorem Reads.step (h : Reads w w.heap.size size A n xs) (hb : Below w.heap.size w w') : Reads w' w'.heap.size size A n xs := (h.below hb).more hb.size
theorem Reads.drew (h : Reads w B size A n xs) : Reads w.drew B size A n xs := h
theorem Reads.drewN (h : Reads w B size A n xs) (k : Nat) : Reads (w.drewN k) B size A n xs := h
theorem Reads.alloc (h : Reads w B size A n xs) (hB : B ≤ w.heap.size) (o : Obj) : Reads (w.alloc o) B size A n xs := h.keep fun p hp => World.cell?_alloc_lt w o p (by omega)
theorem Reads.setCell (h : Reads w B size A n xs) {p : Addr} (hB : B ≤ p.block) (u : Value) : Reads (w.setCell p u) B size A n xs :=
  h.keep fun q hq => World.cell?_setCell_other w p q u (fun e => by subst e; omega)
theorem Reads.grown (h : Reads w B size A n xs) {row : Option Nat} (hg : w.grownBy w' row) (hB : B ≤ w.heap.size) (hr : ∀ g, row = some g → B ≤ g) : Reads w' B size A n xs :=
  h.keep fun p hp => World.cell?_of_block (hg.block p.block (by omega) (fun e => by have := hr _ e.symm; omega))
theorem rangeAt_drop {b o : Nat} (h : w.rangeAt b o xs) (k : Nat) : w.rangeAt b (o + k) (xs.drop k) := fun j v hv => by
  rw [Nat.add_assoc]
  exact h (k + j) v (by rw [← hv, List.getElem?_drop])
theorem rangeAt_take {b o : Nat} (h : w.rangeAt b o xs) (k : Nat) : w.rangeAt b o (xs.take k) := fun j v hv => by
  refine h j v ?_
  rw [List.getElem?_take] at hv
  split at hv
  · exact hv
  · cases hv
/-- The address of 'x[k:]', as the model gives it. -/
def cutAt (A : Option Addr) (c k size : Nat) : Option Addr := if c = k then A else A.map (·.add (k * size))
theorem Reads.cut (h : Reads w B size A n xs) {k cap : Nat} (hk : k ≤ n) (hc : n ≤ cap) :
    Reads w B size (cutAt A cap k size) (n - k) (xs.drop (k * size)) := by
  refine ⟨by rw [List.length_drop, h.1, Nat.sub_mul], fun hn => ?_⟩
  obtain ⟨b, o, rfl, hb, hcell⟩ := h.2 (by omega)
  rw [cutAt, if_neg (by omega)]
  exact ⟨b, o + k * size, by simp [Addr.add_mid], hb, rangeAt_drop hcell _⟩
theorem Reads.take_ (h : Reads w B size A n xs) {k : Nat} (hk : k ≤ n) : Reads w B size A k (xs.take (k * size)) := by
  refine ⟨by rw [List.length_take, h.1]; exact Nat.min_eq_left (Nat.mul_le_mul_right _ hk), fun hn => ?_⟩
  obtain ⟨b, o, rfl, hb, hcell⟩ := h.2 (by omega)
  exact ⟨b, o, rfl, hb, rangeAt_take hcell _⟩
theorem Reads.of_own {base : Nat} {e : TypeId} {c : Nat} (h : w.ownsRow base e size (.slice A n c) n xs) : Reads w w.heap.size size A n xs := by
  refine ⟨h.1, fun hn => ?_⟩
  obtain ⟨g, cap, hv, _, hlt⟩ := h.form hn
  have hA : A = some ⟨g, 0, none⟩ := by injection hv
  subst hA
  refine ⟨g, 0, rfl, hlt, fun j u hu => ?_⟩
  have := h.cells (g := g) rfl j u hu
  rw [Addr.add_mid] at this
  exact this
end

/-! ## Bytes -/
def u8v (x : UInt8) : Value := .int .u8 (x.toNat : Int)
/-- The slice at A reads as these bytes, all of it below block B. -/
def RB (w : World) (B : Nat) (A : Option Addr) (xs : List UInt8) : Prop := Reads w B 1 A xs.length (xs.map u8v)

section
variable {w w' : World} {B B' : Nat} {A : Option Addr} {xs : List UInt8}
theorem RB.at_ (h : RB w B A xs) {k : Nat} (hk : k < xs.length) : ∃ b o, A = some ⟨b, o, none⟩ ∧ b < B ∧ w.cell? ⟨b, o + k, none⟩ = some (.int .u8 (xs[k].toNat : Int)) := by
  obtain ⟨b, o, u, hA, hb, hu, hc⟩ := Reads.at_ h hk
  refine ⟨b, o, hA, hb, ?_⟩
  rw [List.getElem?_map, List.getElem?_eq_getElem hk] at hu
  injection hu with hu
  rw [hc, ← hu]
  rfl
theorem RB.alloc (h : RB w B A xs) (hB : B ≤ w.heap.size) (o : Obj) : RB (w.alloc o) B A xs := Reads.alloc h hB o
theorem RB.below (h : RB w B A xs) (hb : Below B w w') : RB w' B A xs := Reads.below h hb
theorem RB.more (h : RB w B A xs) (hB : B ≤ B') : RB w B' A xs := Reads.more h hB
theorem RB.step (h : RB w w.heap.size A xs) (hb : Below w.heap.size w w') : RB w' w'.heap.size A xs := Reads.step h hb
/-- What read before the call reads in a later world. -/
theorem RB.later {W : World} (h : RB W W.heap.size A xs) (hb : Below W.heap.size W w) : RB w w.heap.size A xs := (h.below hb).more hb.size
theorem RB.nil_ : RB w B A [] := ⟨by simp, fun h => absurd h (by simp)⟩
theorem RB.cut (h : RB w B A xs) {k cap : Nat} (hk : k ≤ xs.length) (hc : xs.length ≤ cap) : RB w B (cutAt A cap k 1) (xs.drop k) := by
  have := Reads.cut (k := k) (cap := cap) h hk hc
  unfold RB
  rw [List.length_drop, List.map_drop]
  simpa using this
theorem RB.take_ (h : RB w B A xs) {k : Nat} (hk : k ≤ xs.length) : RB w B A (xs.take k) := by
  have := Reads.take_ (k := k) h hk
  unfold RB
  rw [List.length_take, Nat.min_eq_left hk, List.map_take]
  simpa using this
end

/-! ## Sectors -/
/-- A sector: eight bytes. -/
abbrev Sec := Vector UInt8 8
def secCells (s : Sec) : List Value := s.toList.map u8v
/-- A sector as a value. -/
def secV (s : Sec) : Value := .agg (secCells s).toArray
theorem secCells_length (s : Sec) : (secCells s).length = 8 := by simp [secCells]
def secsCells (ss : List Sec) : List Value := ss.flatMap secCells
theorem secsCells_length (ss : List Sec) : (secsCells ss).length = ss.length * 8 := by
  induction ss with
  | nil => rfl
  | cons s ss ih => simp only [secsCells, List.flatMap_cons, List.length_append, secCells_length] at ih ⊢; simp only [List.length_cons]; omega
theorem secsCells_append (a b : List Sec) : secsCells (a ++ b) = secsCells a ++ secsCells b := by simp [secsCells]
theorem secsCells_take (ss : List Sec) (k : Nat) : secsCells (ss.take k) = (secsCells ss).take (k * 8) := by
  induction ss generalizing k with
  | nil => simp [secsCells]
  | cons s ss ih =>
    cases k with
    | zero => simp [secsCells]
    | succ k =>
      have h8 : (k + 1) * 8 = (secCells s).length + k * 8 := by rw [secCells_length]; omega
      rw [List.take_succ_cons]
      show secCells s ++ secsCells (ss.take k) = (secCells s ++ secsCells ss).take ((k + 1) * 8)
      rw [h8, List.take_length_add_append, ih]
theorem secsCells_drop (ss : List Sec) (k : Nat) : secsCells (ss.drop k) = (secsCells ss).drop (k * 8) := by
  by_cases hk : k ≤ ss.length
  · have h := secsCells_append (ss.take k) (ss.drop k)
    rw [List.take_append_drop] at h
    rw [h, List.drop_left' (by rw [secsCells_length, List.length_take]; omega)]
  · rw [List.drop_of_length_le (by omega : ss.length ≤ k), List.drop_of_length_le (by rw [secsCells_length]; omega)]
    rfl
/-- The slice at A reads as these sectors, all of it below block B. -/
def RS (w : World) (B : Nat) (A : Option Addr) (ss : List Sec) : Prop := Reads w B 8 A ss.length (secsCells ss)

section
variable {w w' : World} {B B' : Nat} {A : Option Addr} {ss : List Sec}
theorem RS.alloc (h : RS w B A ss) (hB : B ≤ w.heap.size) (o : Obj) : RS (w.alloc o) B A ss := Reads.alloc h hB o
theorem RS.below (h : RS w B A ss) (hb : Below B w w') : RS w' B A ss := Reads.below h hb
theorem RS.more (h : RS w B A ss) (hB : B ≤ B') : RS w B' A ss := Reads.more h hB
theorem RS.step (h : RS w w.heap.size A ss) (hb : Below w.heap.size w w') : RS w' w'.heap.size A ss := Reads.step h hb
theorem RS.later {W : World} (h : RS W W.heap.size A ss) (hb : Below W.heap.size W w) : RS w w.heap.size A ss := (h.below hb).more hb.size
theorem RS.nil_ : RS w B A [] := ⟨by simp [secsCells], fun h => absurd h (by simp)⟩
theorem RS.take_ (h : RS w B A ss) {k : Nat} (hk : k ≤ ss.length) : RS w B A (ss.take k) := by
  have := Reads.take_ (k := k) h hk
  unfold RS
  rw [List.length_take, Nat.min_eq_left hk, secsCells_take]
  exact this
theorem RS.cut (h : RS w B A ss) {k cap : Nat} (hk : k ≤ ss.length) (hc : ss.length ≤ cap) : RS w B (cutAt A cap k 8) (ss.drop k) := by
  have := Reads.cut (k := k) (cap := cap) h hk hc
  unfold RS
  rw [List.length_drop, secsCells_drop]
  exact this
/-- Sector k lies there as eight cells. -/
theorem RS.at_ (h : RS w B A ss) {k : Nat} (hk : k < ss.length) : ∃ b o, A = some ⟨b, o, none⟩ ∧ b < B ∧ w.rangeAt b (o + k * 8) (secCells ss[k]) := by
  obtain ⟨b, o, hA, hb, hc⟩ := h.2 (by omega)
  refine ⟨b, o, hA, hb, ?_⟩
  have h1 := rangeAt_take (rangeAt_drop hc (k * 8)) 8
  have e : ((secsCells ss).drop (k * 8)).take 8 = secCells ss[k] := by
    rw [← secsCells_drop, List.drop_eq_getElem_cons hk]
    show (secCells ss[k] ++ secsCells (ss.drop (k + 1))).take 8 = _
    rw [List.take_append_of_le_length (by rw [secCells_length]; omega), List.take_of_length_le (by rw [secCells_length]; omega)]
  rw [e] at h1
  exact h1
end

end Go.Proofs.Ytejoofeoffehmaa

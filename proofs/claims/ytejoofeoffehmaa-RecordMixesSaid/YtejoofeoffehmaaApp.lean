/- append onto a slice of the call's own, the source nil, empty or not; in a plain region, in a drawn one, inside a fence. -/
import Derived.Test.YtejoofeoffehmaaMem
import Derived.Test.YtejoofeoffehmaaIn
namespace Go.Proofs.Ytejoofeoffehmaa
open Go.RowKit

/-- What append asks of the types: t is a slice of e; e has 'size' cells and 'bytes' bytes. -/
def ElemT (P : Program) (t e : TypeId) (size bytes : Nat) : Prop :=
  P.underlying t = some (.slice e) ∧ 0 < size ∧ ∃ (i : TypeInfo) (z : Value), P.info? e = some i ∧ i.zero = some z ∧ i.size = size ∧ i.bytes = bytes ∧ z.cells.size = size
theorem ElemT.mk_ {P : Program} {t e : TypeId} {z : Value} {size bytes : Nat} (ht : P.underlying t = some (.slice e)) (h : (P.info? e).map (fun i => (i.zero, i.size, i.bytes)) = some (some z, size, bytes)) (hz : z.cells.size = size) (hs : 0 < size) : ElemT P t e size bytes := by
  obtain ⟨i, h1, h2, h3, h4⟩ := info_parts h
  exact ⟨ht, hs, i, z, h1, h2, h3, h4, hz⟩

/-- The slice value with address A, length n and capacity c is the call's own and holds the cells xs. -/
def Own (w : World) (base : Nat) (e : TypeId) (size : Nat) (A : Option Addr) (n c : Nat) (xs : List Value) : Prop := w.ownsRow base e size (.slice A n c) n xs
/-- Where the row lies: the old one's block, or the new one. -/
def Lies (H : Nat) (A A' : Option Addr) : Prop := A'.map (·.block) = A.map (·.block) ∨ A'.map (·.block) = some H

section
variable {w w' : World} {base : Nat} {e : TypeId} {size n c : Nat} {A : Option Addr} {xs : List Value}
theorem Own.nil_ (w : World) (base : Nat) (e : TypeId) (size : Nat) : Own w base e size none 0 0 [] := World.ownsRow_nil w base e size
theorem Own.len (h : Own w base e size A n c xs) : xs.length = n * size := h.1
theorem Own.reads (h : Own w base e size A n c xs) : Reads w w.heap.size size A n xs := Reads.of_own h
theorem ownBlock_slice (A : Option Addr) (n c : Nat) : (Value.slice A n c).ownBlock = A.map (·.block) := by cases A <;> rfl
theorem Own.block (h : Own w base e size A n c xs) : ∀ k, A.map (·.block) = some k → base ≤ k ∧ k < w.heap.size := by
  intro k hk
  exact World.ownsRow.lt h k (by rw [ownBlock_slice]; exact hk)
theorem Own.kept {row : Option Nat} (h : Own w base e size A n c xs) (hg : w.grownBy w' row) (hne : A = none ∨ A.map (·.block) ≠ row) : Own w' base e size A n c xs := by
  refine World.ownsRow.kept h hg ?_
  rw [ownBlock_slice]
  rcases hne with rfl | hne
  · exact .inl rfl
  · exact .inr hne
theorem Own.below (h : Own w base e size A n c xs) (hb : Below w.heap.size w w') : Own w' base e size A n c xs := by
  refine Own.kept (row := none) h ⟨hb.os, hb.tape, hb.output, hb.size, fun k hk _ => hb.block k hk⟩ ?_
  cases A
  · exact .inl rfl
  · exact .inr (by simp)
theorem Own.alloc (h : Own w base e size A n c xs) (o : Obj) : Own (w.alloc o) base e size A n c xs := World.ownsRow.alloc h o
theorem Own.cap (h : Own w base e size A n c xs) : n ≤ c := by
  rcases h.2 with ⟨h1, h2⟩ | ⟨g, cap, cur, h1, _, _, h2, _⟩
  · omega
  · injection h1 with _ _ h3; omega
theorem Own.drew (h : Own w base e size A n c xs) : Own w.drew base e size A n c xs := h
/-- A fresh row: 'make', or a literal. -/
theorem Own.made (w : World) (cur : Array Value) (cap : Nat) (hb : base ≤ w.heap.size) (hm : cap ≤ maxLen) (hs : cur.size = cap * size) : Own (w.alloc (.cells cur e)) base e size (some ⟨w.heap.size, 0, none⟩) 0 cap [] :=
  World.ownsRow_made w cur cap hb hm hs
theorem Own.lit (w : World) (cur : Array Value) (n : Nat) (hb : base ≤ w.heap.size) (hm : n ≤ maxLen) (hs : cur.size = n * size) : Own (w.alloc (.cells cur e)) base e size (some ⟨w.heap.size, 0, none⟩) n n cur.toList :=
  ⟨by simpa using hs, .inr ⟨w.heap.size, n, cur, rfl, hb, Go.heap_alloc_new w _, Nat.le_refl _, hm, hs, List.take_of_length_le (by simp [hs])⟩⟩
end

/-- One element laid for an append. -/
theorem reads_one (w : World) (v : Value) (t : TypeId) : Reads (w.alloc (.cells #[v] t)) (w.heap.size + 1) 1 (some ⟨w.heap.size, 0, none⟩) 1 [v] :=
  ⟨rfl, fun _ => ⟨w.heap.size, 0, rfl, by omega, fun j u hu => by
    have := (Blk.new w t #[v]).cell j
    rw [Nat.zero_add, this]
    simpa using hu⟩⟩
theorem Own.lit1 (w : World) (base : Nat) (v : Value) (e : TypeId) (hb : base ≤ w.heap.size) : Own (w.alloc (.cells #[v] e)) base e 1 (some ⟨w.heap.size, 0, none⟩) 1 1 [v] :=
  Own.lit (size := 1) w #[v] 1 hb (by decide) rfl
theorem below_app {W w w' : World} {A : Option Addr} {base : Nat} (hB : Below base W w) (hb : base ≤ w.heap.size) (hA : ∀ k, A.map (·.block) = some k → base ≤ k) (hg : w.grownBy w' (A.map (·.block))) : Below base W w' :=
  hB.grown hg hb (fun k hk => hA k hk)

section
variable {P : Program} (w : World)

theorem run_app (t ty e : TypeId) (size bytes : Nat) (hE : ElemT P t e size bytes) (base : Nat) (A : Option Addr) (n c : Nat) (xs : List Value) (hown : Own w base e size A n c xs)
    (B : Nat) (S : Option Addr) (m sc : Nat) (news : List Value) (hr : Reads w B size S m news) (h1 : ∀ u ∈ news, u.oneCell' = true)
    (h63 : n + m ≤ maxLen) (hbytes : (n + m) * bytes ≤ 140737488355328) (hbase : base ≤ w.heap.size) :
    ∃ A' c' w', (Builtin.append_ #[t, t] ty #[.slice A n c, .slice S m sc]).run P w = .ok (.slice A' (n + m) c') w' ∧ Own w' base e size A' (n + m) c' (xs ++ news) ∧ w.grownBy w' (A.map (·.block)) ∧ Lies w.heap.size A A' := by
  obtain ⟨ht, hs0, i, z, hi, hz, hsize, hby, hzs⟩ := hE
  by_cases hm : m = 0
  · subst hm
    have hn : news = [] := List.eq_nil_of_length_eq_zero (by simpa using hr.1)
    subst hn
    have hrun : ∀ S sc, (Builtin.append_ #[t, t] ty #[.slice A n c, .slice S 0 sc]).run P w = .ok (.slice A n c) w := by
      intro S sc
      have hnc := hown.cap
      rcases hown.2 with ⟨h2, h3⟩ | ⟨g, cap, cur, h2, _, hg, _, _, hcs, _⟩
      · injection h2 with h4 h5 h6
        subst h4 h6
        have : n = 0 := h3
        subst this
        cases S <;> simp [Builtin.append_, run_underlying ht, sizeOf, typeInfo, hi, Builtin.lenOf, Builtin.firstCells, loadCells, loadCellsFrom]
      · injection h2 with h4 h5 h6
        subst h4
        cases S <;> simp [Builtin.append_, run_underlying ht, sizeOf, typeInfo, hi, Builtin.lenOf, Builtin.firstCells, loadCells, loadCellsFrom, storeCells, hnc]
    exact ⟨A, c, w, hrun S sc, by simpa using hown, ⟨rfl, rfl, rfl, Nat.le_refl _, fun _ _ _ => rfl⟩, .inl rfl⟩
  · obtain ⟨b, o, rfl, _, hc⟩ := hr.2 (by omega)
    obtain ⟨v', w', hrun, h2, h3, _, h5⟩ := run_append_own_at (P := P) w base t ty e i z size bytes ht hi hz hsize hby hzs hs0 (.slice A n c) n xs hown ⟨b, o, none⟩ m sc news hr.1
      (fun j u hu => by rw [Addr.add_mid]; exact hc j u hu) h1 h63 hbytes hbase
    obtain ⟨g, cap, rfl, _, _⟩ := h2.form (by omega)
    refine ⟨_, cap, w', hrun, h2, by rw [ownBlock_slice] at h3; exact h3, ?_⟩
    rw [ownBlock_slice, ownBlock_slice] at h5
    exact h5

theorem wp_app {o : Oper} {a : Act} {K : Act → World → Prop} {Q : Exit → Act → World → Prop} (s x : Operand) (t : TypeId)
    (ho : o.op = .call { callee := .builtin .append, args := #[s, x], argTypes := #[t, t] })
    (e : TypeId) (size bytes : Nat) (hE : ElemT P t e size bytes) (base : Nat) (A : Option Addr) (n c : Nat) (xs : List Value) (hs : a.eval s = .slice A n c) (hown : Own w base e size A n c xs)
    (B : Nat) (S : Option Addr) (m sc : Nat) (news : List Value) (hx : a.eval x = .slice S m sc) (hr : Reads w B size S m news) (h1 : ∀ u ∈ news, u.oneCell' = true)
    (N : Nat) (hN : n + m = N) (ys : List Value) (hys : xs ++ news = ys) (h63 : N ≤ maxLen) (hbytes : N * bytes ≤ 140737488355328) (hbase : base ≤ w.heap.size)
    (h : ∀ A' c' w', Own w' base e size A' N c' ys → w.grownBy w' (A.map (·.block)) → Lies w.heap.size A A' → K (a.put o.dst (.slice A' N c')) w') : o.wp P a w K Q := by
  subst hN hys
  obtain ⟨A', c', w', hrun, h2, h3, h4⟩ := run_app (P := P) w t o.type e size bytes hE base A n c xs hown B S m sc news hr h1 h63 hbytes hbase
  unfold Oper.wp execOp
  simp only [ho, resolve, invoke, builtin, Sem.run_bind, Sem.run_pure, Result.andThen_ok, List.map_toArray, List.map_cons, List.map_nil, hs, hx, hrun]
  exact h A' c' w' h2 h3 h4

theorem wpList_app {ops : Array Oper} {rest : List Oper} {o : Oper} {a : Act} {Q : Exit → Act → World → Prop} (hgd : o.guard = none) (s x : Operand) (t : TypeId)
    (ho : o.op = .call { callee := .builtin .append, args := #[s, x], argTypes := #[t, t] })
    (e : TypeId) (size bytes : Nat) (hE : ElemT P t e size bytes) (base : Nat) (A : Option Addr) (n c : Nat) (xs : List Value) (hs : a.eval s = .slice A n c) (hown : Own w base e size A n c xs)
    (B : Nat) (S : Option Addr) (m sc : Nat) (news : List Value) (hx : a.eval x = .slice S m sc) (hr : Reads w B size S m news) (h1 : ∀ u ∈ news, u.oneCell' = true)
    (N : Nat) (hN : n + m = N) (ys : List Value) (hys : xs ++ news = ys) (h63 : N ≤ maxLen) (hbytes : N * bytes ≤ 140737488355328) (hbase : base ≤ w.heap.size)
    (h : ∀ A' c' w', Own w' base e size A' N c' ys → w.grownBy w' (A.map (·.block)) → Lies w.heap.size A A' → wpList P ops Q rest (a.put o.dst (.slice A' N c')) w') : wpList P ops Q (o :: rest) a w :=
  wpList_plain hgd fun _ hK => wp_app w s x t ho e size bytes hE base A n c xs hs hown B S m sc news hx hr h1 N hN ys hys h63 hbytes hbase fun A' c' w' h2 h3 h4 => hK _ _ (h A' c' w' h2 h3 h4)

/-- At a step of a region that draws its order. -/
theorem step_app {ops : Array Oper} {o : Oper} {a : Act} {K : Act → World → Prop} {Q : Exit → Act → World → Prop} {E : Prop} (hgd : o.guard = none) (s x : Operand) (t : TypeId)
    (ho : o.op = .call { callee := .builtin .append, args := #[s, x], argTypes := #[t, t] })
    (e : TypeId) (size bytes : Nat) (hE : ElemT P t e size bytes) (base : Nat) (A : Option Addr) (n c : Nat) (xs : List Value) (hs : a.eval s = .slice A n c) (hown : Own w base e size A n c xs)
    (B : Nat) (S : Option Addr) (m sc : Nat) (news : List Value) (hx : a.eval x = .slice S m sc) (hr : Reads w B size S m news) (h1 : ∀ u ∈ news, u.oneCell' = true)
    (N : Nat) (hN : n + m = N) (ys : List Value) (hys : xs ++ news = ys) (h63 : N ≤ maxLen) (hbytes : N * bytes ≤ 140737488355328) (hbase : base ≤ w.heap.size)
    (h : ∀ A' c' w', Own w' base e size A' N c' ys → w.grownBy w' (A.map (·.block)) → Lies w.heap.size A A' → K (a.put o.dst (.slice A' N c')) w') :
    if Region.wanted o (yielded ops a.tmps) = true then Oper.wp P o a w K Q else E := by
  have hw : Region.wanted o (yielded ops a.tmps) = true := by simp [Region.wanted, hgd]
  rw [if_pos hw]
  exact wp_app w s x t ho e size bytes hE base A n c xs hs hown B S m sc news hx hr h1 N hN ys hys h63 hbytes hbase h
end

/-- Inside a fence. -/
theorem wpListIn_app {F : Fence} {nf : Nat} {P : Program} (w : World) {ops : Array Oper} {rest : List Oper} {o : Oper} {a : Act} {Q : Exit → Act → World → Prop} (hgd : o.guard = none) (s x : Operand) (t : TypeId)
    (ho : o.op = .call { callee := .builtin .append, args := #[s, x], argTypes := #[t, t] })
    (e : TypeId) (size bytes : Nat) (hE : ElemT P t e size bytes) (base : Nat) (A : Option Addr) (n c : Nat) (xs : List Value) (hs : a.eval s = .slice A n c) (hown : Own w base e size A n c xs)
    (B : Nat) (S : Option Addr) (m sc : Nat) (news : List Value) (hx : a.eval x = .slice S m sc) (hr : Reads w B size S m news) (h1 : ∀ u ∈ news, u.oneCell' = true)
    (N : Nat) (hN : n + m = N) (ys : List Value) (hys : xs ++ news = ys) (h63 : N ≤ maxLen) (hbytes : N * bytes ≤ 140737488355328) (hbase : base ≤ w.heap.size)
    (h : ∀ A' c' w', Own w' base e size A' N c' ys → w.grownBy w' (A.map (·.block)) → Lies w.heap.size A A' → wpListIn F nf P ops Q rest (a.put o.dst (.slice A' N c')) w') : wpListIn F nf P ops Q (o :: rest) a w := by
  refine wpListIn_plain hgd fun K hK' => ?_
  subst hN hys
  obtain ⟨A', c', w', hrun, h2, h3, h4⟩ := run_app (P := P) w t o.type e size bytes hE base A n c xs hown B S m sc news hr h1 h63 hbytes hbase
  unfold Oper.wpIn
  refine ⟨?_, ?_⟩
  · simp [Oper.about, ho, resolve, Target.leads, Sem.run_pure]
  · rw [Oper.semAt_plain F _ _ (by rw [ho]; intro c hc'; cases hc')]
    simp [execOp, ho, resolve, invoke, builtin, hs, hx, hrun, Result.andThen]
    exact hK' _ _ (h A' c' w' h2 h3 h4)

end Go.Proofs.Ytejoofeoffehmaa

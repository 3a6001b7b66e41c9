/- Arguments opened: from the reading of data to plain lists. -/
import Derived.Test.YtejoofeoffehmaaRows
import Derived.Test.YtejoofeoffehmaaMem
import Derived.ProofKit
import Derived.OpenShut
import Derived.ChangeOld
import Derived.Deep.Slices
import Derived.Deep.Fields
namespace Go.Proofs.Ytejoofeoffehmaa
open Go.ChangeShapes Go.WideShapes Go.RowKit Go.Deep

section
variable {H : Type} {enc : TypeId × Value → H} {P : Program} {w : World} {base : Nat} {spare : Nat → Bool} {held : Bool}

/-- The cells that a list of elements leaves, each 'size' long, lie one behind the other. -/
theorem rangeAt_flat {w : World} {b o size : Nat} (css : List (List Value)) (hl : ∀ cs ∈ css, cs.length = size) (h : ∀ i cs, css[i]? = some cs → w.rangeAt b (o + i * size) cs) : w.rangeAt b o css.flatten := by
  induction css generalizing o with
  | nil => intro j v hv; simp at hv
  | cons cs css ih =>
    intro j v hv
    rw [List.flatten_cons] at hv
    have hcs : cs.length = size := hl cs (by simp)
    by_cases hj : j < size
    · rw [List.getElem?_append_left (by omega)] at hv
      have := h 0 cs rfl j v hv
      simpa using this
    · rw [List.getElem?_append_right (by omega), hcs] at hv
      have := ih (o := o + size) (fun c hc => hl c (by simp [hc])) (fun i c hc => by
        have := h (i + 1) c (by simpa using hc)
        have e : o + size + i * size = o + (i + 1) * size := by rw [Nat.succ_mul]; omega
        rw [e]; exact this) (j - size) v hv
      have e : o + size + (j - size) = o + j := by omega
      rw [e] at this
      exact this

theorem rangeAt_of_cells {a : Addr} {n : Nat} {cs : List Value} (h : w.cells? base a n = some cs) (hn : 0 < n) : ∃ b o, a = ⟨b, o, none⟩ ∧ b < w.heap.size ∧ w.rangeAt b o cs := by
  obtain ⟨_, hlen, hat⟩ := World.cells?_some h
  obtain ⟨b, o, spot⟩ := a
  have h0 := hat 0 hn
  have hs : cs[0]? = some (cs[0]'(by omega)) := List.getElem?_eq_getElem (by omega)
  rw [hs] at h0
  have hspot : spot = none := by simpa [Addr.add] using World.cell?_spot h0
  subst hspot
  refine ⟨b, o, rfl, ?_, fun j v hv => ?_⟩
  · have := World.block_lt_of_cell? w _ h0
    simpa [Addr.add] using this
  · have hj : j < n := by have := (List.getElem?_eq_some_iff.1 hv).1; omega
    have := hat j hj
    rw [Addr.add_mid] at this
    rw [this, hv]

/-- A SLICE OF WHATEVER ELEMENTS, each of 'size' cells: its elements' cells lie one behind the other, and each element reads as data. -/
theorem open_any {t e : TypeId} {fuel size : Nat} {v : Value} {x : DataW H × List MemPlace} (ht : P.underlying t = some (.slice e)) (hC : P.cellsOf e = size) (hs : 0 < size)
    (h : DataW.trod enc P w base spare held fuel t [v] = some x) :
    ∃ (A : Option Addr) (n c : Nat) (css : List (List Value)), v = .slice A n c ∧ n ≤ c ∧ c ≤ maxLen ∧ css.length = n ∧ (∀ cs ∈ css, cs.length = size) ∧
      (∀ cs ∈ css, ∃ (m : Nat) (y : DataW H × List MemPlace), DataW.trod enc P w base spare held m e cs = some y) ∧ Reads w w.heap.size size A n css.flatten := by
  rcases open_slice ht h with ⟨h0, _⟩ | ⟨a, len, cap, m, f, D, Pl, hcs, _, hl, hm, hmm, _, hi⟩
  · injection h0 with h0
    exact ⟨none, 0, 0, [], h0, by omega, by simp [maxLen], rfl, by simp, by simp, Reads.none_⟩
  · injection hcs with hcs
    rw [hC] at hi
    have hle : len ≤ m := by rw [hmm]; split <;> omega
    have hall : ∀ i, ∃ cs' : List Value, i < len → w.cells? base (a.add (i * size)) size = some cs' ∧ DataW.trod enc P w base spare held f e cs' = some (D i, Pl i) := by
      intro i
      by_cases hlt : i < len
      · obtain ⟨cs', h1, h2⟩ := hi i (by omega)
        exact ⟨cs', fun _ => ⟨h1, h2⟩⟩
      · exact ⟨[], fun h => absurd h hlt⟩
    obtain ⟨g, hg⟩ : ∃ g : Nat → List Value, ∀ i, i < len → w.cells? base (a.add (i * size)) size = some (g i) ∧ DataW.trod enc P w base spare held f e (g i) = some (D i, Pl i) :=
      ⟨fun i => Classical.choose (hall i), fun i hlt => Classical.choose_spec (hall i) hlt⟩
    have hlen : ∀ cs ∈ (List.range len).map g, cs.length = size := by
      intro cs hcs
      simp only [List.mem_map, List.mem_range] at hcs
      obtain ⟨i, hi1, rfl⟩ := hcs
      exact (World.cells?_some (hg i hi1).1).2.1
    refine ⟨some a, len, cap, (List.range len).map g, hcs, hl, hm, by simp, hlen, ?_, ?_, ?_⟩
    · intro cs hcs
      simp only [List.mem_map, List.mem_range] at hcs
      obtain ⟨i, hi1, rfl⟩ := hcs
      exact ⟨f, _, (hg i hi1).2⟩
    · rw [List.length_flatten]
      have : List.map List.length ((List.range len).map g) = List.replicate len size := by
        apply List.ext_getElem
        · simp
        · intro i h1 h2
          simp only [List.getElem_map, List.getElem_replicate]
          exact hlen _ (by simp only [List.mem_map, List.mem_range]; exact ⟨i, by simpa using h1, by simp⟩)
      rw [this]
      simp
    · intro hn
      have h0 := (hg 0 hn).1
      rw [Nat.zero_mul] at h0
      obtain ⟨b, o, ha, hb, _⟩ := rangeAt_of_cells h0 hs
      have ha' : a = ⟨b, o, none⟩ := by
        have : a.add 0 = a := by simp [Addr.add]
        rw [this] at ha; exact ha
      subst ha'
      refine ⟨b, o, rfl, hb, rangeAt_flat _ hlen ?_⟩
      intro i cs hcs
      rw [List.getElem?_map] at hcs
      by_cases hlt : i < len
      · rw [List.getElem?_range hlt] at hcs
        simp only [Option.map_some, Option.some.injEq] at hcs
        subst hcs
        obtain ⟨b', o', e', _, hr⟩ := rangeAt_of_cells (hg i hlt).1 hs
        rw [Addr.add_mid] at e'
        injection e' with e1 e2
        subst e1 e2
        exact hr
      · rw [List.getElem?_eq_none (by simpa using hlt)] at hcs
        cases hcs

/-- .. WHERE EACH ELEMENT's CELLS ARE A FUNCTION OF SOMETHING. -/
theorem open_enc {α : Type} (f : α → List Value) {t e : TypeId} {fuel size : Nat} {v : Value} {x : DataW H × List MemPlace} (ht : P.underlying t = some (.slice e)) (hC : P.cellsOf e = size) (hs : 0 < size)
    (hel : ∀ (m : Nat) (cs : List Value) (y : DataW H × List MemPlace), DataW.trod enc P w base spare held m e cs = some y → ∃ z, cs = f z)
    (h : DataW.trod enc P w base spare held fuel t [v] = some x) :
    ∃ (A : Option Addr) (c : Nat) (zs : List α), v = .slice A zs.length c ∧ zs.length ≤ c ∧ c ≤ maxLen ∧ Reads w w.heap.size size A zs.length (zs.flatMap f) := by
  obtain ⟨A, n, c, css, rfl, h1, h2, h3, h4, h5, h6⟩ := open_any ht hC hs h
  have : ∃ zs : List α, css = zs.map f := by
    clear h6 h3 h4
    induction css with
    | nil => exact ⟨[], rfl⟩
    | cons cs css ih =>
      obtain ⟨zs, hz⟩ := ih (fun c hc => h5 c (by simp [hc]))
      obtain ⟨m, y, hy⟩ := h5 cs (by simp)
      obtain ⟨z, rfl⟩ := hel m cs y hy
      exact ⟨z :: zs, by rw [hz]; rfl⟩
  obtain ⟨zs, rfl⟩ := this
  have hn : zs.length = n := by simpa using h3
  subst hn
  exact ⟨A, c, zs, rfl, h1, h2, by rw [List.flatMap_def]; exact h6⟩

/-! ### The single kinds -/
theorem wf_u8 {n : Int} (h : (Lit.int .u8 n).wf = true) : ∃ x : UInt8, n = (x.toNat : Int) := by
  have hb : 0 ≤ n ∧ n < 256 := by
    simp [Lit.wf, IntKind.min, IntKind.max, IntKind.bits, IntKind.signed] at h
    omega
  refine ⟨UInt8.ofNat n.toNat, ?_⟩
  rw [UInt8.toNat_ofNat_of_lt' (by show n.toNat < 256; omega)]
  omega

theorem wf_u16 {n : Int} (h : (Lit.int .u16 n).wf = true) : ∃ x : UInt16, n = (x.toNat : Int) := by
  have hb : 0 ≤ n ∧ n < 65536 := by
    simp [Lit.wf, IntKind.min, IntKind.max, IntKind.bits, IntKind.signed] at h
    omega
  refine ⟨UInt16.ofNat n.toNat, ?_⟩
  rw [UInt16.toNat_ofNat_of_lt' (by show n.toNat < 65536; omega)]
  omega
theorem wf_u32 {n : Int} (h : (Lit.int .u32 n).wf = true) : ∃ x : UInt32, n = (x.toNat : Int) := by
  have hb : 0 ≤ n ∧ n < 4294967296 := by
    simp [Lit.wf, IntKind.min, IntKind.max, IntKind.bits, IntKind.signed] at h
    omega
  refine ⟨UInt32.ofNat n.toNat, ?_⟩
  rw [UInt32.toNat_ofNat_of_lt' (by show n.toNat < 4294967296; omega)]
  omega
theorem wf_u64 {n : Int} (h : (Lit.int .u64 n).wf = true) : ∃ x : UInt64, n = (x.toNat : Int) := by
  have hb : 0 ≤ n ∧ n < 18446744073709551616 := by
    simp [Lit.wf, IntKind.min, IntKind.max, IntKind.bits, IntKind.signed] at h
    omega
  refine ⟨UInt64.ofNat n.toNat, ?_⟩
  rw [UInt64.toNat_ofNat_of_lt' (by show n.toNat < 18446744073709551616; omega)]
  omega
theorem wf_i64 {n : Int} (h : (Lit.int .i64 n).wf = true) : -9223372036854775808 ≤ n ∧ n ≤ 9223372036854775807 := by
  simp [Lit.wf, IntKind.min, IntKind.max, IntKind.bits, IntKind.signed] at h
  omega

theorem trod_u8 {t : TypeId} {m : Nat} {cs : List Value} {y : DataW H × List MemPlace} (ht : P.underlying t = some (.int .u8)) (h : DataW.trod enc P w base spare held m t cs = some y) : ∃ x : UInt8, cs = [u8v x] := by
  obtain ⟨n, rfl, _, hw⟩ := DataW.trod_int ht h
  obtain ⟨x, rfl⟩ := wf_u8 hw
  exact ⟨x, rfl⟩

theorem cells_of_bytes {n : Nat} : ∀ {cs : List Value}, cs.length = n → (∀ i, i < n → ∃ x : UInt8, (cs.drop i).take 1 = [u8v x]) → ∃ xs : List UInt8, xs.length = n ∧ cs = xs.map u8v := by
  induction n with
  | zero => intro cs h _; exact ⟨[], rfl, by simpa using h⟩
  | succ n ih =>
    intro cs h hx
    cases cs with
    | nil => simp at h
    | cons c cs =>
      obtain ⟨x, hx0⟩ := hx 0 (by omega)
      obtain ⟨xs, hl, rfl⟩ := ih (cs := cs) (by simpa using h) (fun i hi => by
        have := hx (i + 1) (by omega)
        simpa using this)
      simp at hx0
      exact ⟨x :: xs, by simp [hl], by simp [hx0]⟩

/-- An array of bytes. -/
theorem trod_bytes {t e : TypeId} {n m : Nat} {cs : List Value} {y : DataW H × List MemPlace} (ht : P.underlying t = some (.array n e)) (he : P.underlying e = some (.int .u8)) (h1 : P.cellsOf e = 1) (hn : P.cellsOf t = n)
    (h : DataW.trod enc P w base spare held m t cs = some y) : ∃ xs : List UInt8, xs.length = n ∧ cs = xs.map u8v := by
  obtain ⟨ys, k, _, _, hcl, hyl, hi⟩ := DataW.trod_array ht h
  refine cells_of_bytes (hcl.trans hn) (fun i hi' => ?_)
  have hb := hi i hi'
  rw [h1, Nat.mul_one, List.getElem?_eq_getElem (by omega)] at hb
  exact trod_u8 he hb

theorem trod_sec {t e : TypeId} {m : Nat} {cs : List Value} {y : DataW H × List MemPlace} (ht : P.underlying t = some (.array 8 e)) (he : P.underlying e = some (.int .u8)) (h1 : P.cellsOf e = 1) (hn : P.cellsOf t = 8)
    (h : DataW.trod enc P w base spare held m t cs = some y) : ∃ s : Sec, cs = secCells s := by
  obtain ⟨xs, hl, rfl⟩ := trod_bytes ht he h1 hn h
  exact ⟨⟨xs.toArray, by simpa using hl⟩, by simp [secCells]⟩

/-- A slice of bytes. -/
theorem open_bytes {t e : TypeId} {fuel : Nat} {v : Value} {x : DataW H × List MemPlace} (ht : P.underlying t = some (.slice e)) (he : P.underlying e = some (.int .u8)) (h1 : P.cellsOf e = 1)
    (h : DataW.trod enc P w base spare held fuel t [v] = some x) : ∃ (A : Option Addr) (c : Nat) (xs : List UInt8), v = .slice A xs.length c ∧ xs.length ≤ c ∧ c ≤ maxLen ∧ RB w w.heap.size A xs := by
  obtain ⟨A, c, zs, rfl, hl, hc, hr⟩ := open_enc (fun x : UInt8 => [u8v x]) ht h1 (by decide) (fun m cs y hy => trod_u8 he hy) h
  refine ⟨A, c, zs, rfl, hl, hc, ?_⟩
  unfold RB
  have : zs.map u8v = zs.flatMap fun x => [u8v x] := by
    clear hr hl h
    induction zs with
    | nil => rfl
    | cons z zs ih => simp only [List.map_cons, List.flatMap_cons, ih, List.singleton_append]
  rw [this]
  exact hr
/-- A slice of sectors. -/
theorem open_secs {t e b : TypeId} {fuel : Nat} {v : Value} {x : DataW H × List MemPlace} (ht : P.underlying t = some (.slice e)) (he : P.underlying e = some (.array 8 b)) (hb : P.underlying b = some (.int .u8)) (h1 : P.cellsOf b = 1) (h8 : P.cellsOf e = 8)
    (h : DataW.trod enc P w base spare held fuel t [v] = some x) : ∃ (A : Option Addr) (c : Nat) (ss : List Sec), v = .slice A ss.length c ∧ ss.length ≤ c ∧ c ≤ maxLen ∧ RS w w.heap.size A ss :=
  open_enc secCells ht h8 (by decide) (fun m cs y hy => trod_sec he hb h1 h8 hy) h

/-- An array of bytes by value. -/
theorem open_arr {t e : TypeId} {n : Nat} {r : Reach} {b0 : Nat} {v : Value} {d : DataW H} {p : List MemPlace} (ht : P.underlying t = some (.array n e)) (he : P.underlying e = some (.int .u8)) (h1 : P.cellsOf e = 1) (hn : P.cellsOf t = n)
    (hv : Value.okWide P w r b0 t v) (h : DataW.Trod enc P w base spare held t v d p) : ∃ xs : List UInt8, xs.length = n ∧ v = .agg (xs.map u8v).toArray := by
  simp only [Value.okWide, ht] at hv
  obtain ⟨cs, rfl, h2, _⟩ := hv
  obtain ⟨fuel, hf⟩ := h
  obtain ⟨xs, hl, hx⟩ := trod_bytes ht he h1 hn hf
  refine ⟨xs, hl, ?_⟩
  have : cs = (xs.map u8v).toArray := by
    apply Array.toList_inj.1
    simpa [Value.cells] using hx
  rw [this]
end
end Go.Proofs.Ytejoofeoffehmaa

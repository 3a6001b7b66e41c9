/- Opening lists of records, and of truths. -/
import Derived.Test.YtejoofeoffehmaaOpen
import Derived.Test.YtejoofeoffehmaaScan
import Derived.Lib.SmallJoins
namespace Go.Proofs.Ytejoofeoffehmaa
open Go.ChangeShapes Go.WideShapes Go.ChangeAt Go.RowKit Go.Joins

section
variable {H : Type} {enc : TypeId × Value → H} {w : World} {base : Nat} {spare : Nat → Bool} {held : Bool}

theorem open_bools {t e : TypeId} {P : Program} {fuel : Nat} {v : Value} {x : DataW H × List MemPlace} (ht : P.underlying t = some (.slice e)) (he : P.underlying e = some .bool) (h1 : P.cellsOf e = 1)
    (h : DataW.trod enc P w base spare held fuel t [v] = some x) : ∃ (A : Option Addr) (c : Nat) (bs : List Bool), v = .slice A bs.length c ∧ bs.length ≤ c ∧ c ≤ maxLen ∧ Reads w w.heap.size 1 A bs.length (bs.map .bool) := by
  obtain ⟨A, c, zs, rfl, hl, hc, hr⟩ := open_enc (fun b : Bool => [Value.bool b]) ht h1 (by decide) (fun m cs y hy => by
    obtain ⟨b, rfl, _⟩ := DataW.trod_bool he hy
    exact ⟨b, rfl⟩) h
  refine ⟨A, c, zs, rfl, hl, hc, ?_⟩
  have : zs.map Value.bool = zs.flatMap fun b => [Value.bool b] := by
    clear hr hl h
    induction zs with
    | nil => rfl
    | cons z zs ih => simp only [List.map_cons, List.flatMap_cons, ih, List.singleton_append]
  rw [this]
  exact hr

theorem trod_rec {m : Nat} {cs : List Value} {y : DataW H × List MemPlace} (h : DataW.trod enc Try.prog w base spare held m 27 cs = some y) :
    ∃ (r : Rc) (P : Option Addr × Nat), cs = rcCells r P ∧ RB w w.heap.size P.1 r.p := by
  obtain ⟨y0, y1, y2, n, _, hl, h0, h1, h2⟩ := Go.Deep.trod_struct3 Try.underlying27 h
  have hl3 : cs.length = 3 := hl.trans (by kernel_rfl)
  match cs, hl3 with
  | [c0, c1, c2], _ =>
    have e1 : Try.prog.cellsOf 3 = 1 := by kernel_rfl
    have e2 : Try.prog.cellsOf 25 = 1 := by kernel_rfl
    have h0' : DataW.trod enc Try.prog w base spare held n 3 [c0] = some y0 := by simpa [e1] using h0
    have h1' : DataW.trod enc Try.prog w base spare held n 3 [c1] = some y1 := by simpa [e1] using h1
    have h2' : DataW.trod enc Try.prog w base spare held n 25 [c2] = some y2 := by simpa [e2] using h2
    obtain ⟨k, hk, _, _⟩ := DataW.trod_int Try.underlying3 h0'
    obtain ⟨q, hq, _, _⟩ := DataW.trod_int Try.underlying3 h1'
    obtain ⟨A, c, xs, hx, _, _, hr⟩ := open_bytes Try.underlying25 Try.underlying5 (by kernel_rfl) h2'
    cases hk
    cases hq
    subst hx
    exact ⟨⟨k, q, xs⟩, (A, c), rfl, hr⟩

theorem open_recs {fuel : Nat} {v : Value} {x : DataW H × List MemPlace} (h : DataW.trod enc Try.prog w base spare held fuel 50 [v] = some x) :
    ∃ (A : Option Addr) (c : Nat) (rs : List Rc), v = .slice A rs.length c ∧ rs.length ≤ c ∧ c ≤ maxLen ∧ RR w w.heap.size A rs := by
  obtain ⟨A, n, c, css, rfl, h1, h2, h3, h4, h5, h6⟩ := open_any Try.underlying50 (show Try.prog.cellsOf 27 = 3 by kernel_rfl) (by decide) h
  have : ∃ (rs : List Rc) (Ps : List (Option Addr × Nat)), Ps.length = rs.length ∧ css = List.zipWith rcCells rs Ps ∧ ∀ i (h : i < rs.length) (h' : i < Ps.length), RB w w.heap.size Ps[i].1 rs[i].p := by
    clear h6 h3 h4
    induction css with
    | nil => exact ⟨[], [], rfl, rfl, fun i h => by simp at h⟩
    | cons cs css ih =>
      obtain ⟨rs, Ps, hl, hz, hr⟩ := ih (fun c hc => h5 c (by simp [hc]))
      obtain ⟨m, y, hy⟩ := h5 cs (by simp)
      obtain ⟨r, P, rfl, hrb⟩ := trod_rec hy
      refine ⟨r :: rs, P :: Ps, by simp [hl], by rw [hz]; rfl, fun i h h' => ?_⟩
      cases i with
      | zero => exact hrb
      | succ i => simpa using hr i (by simpa using h) (by simpa using h')
  obtain ⟨rs, Ps, hl, rfl, hr⟩ := this
  have hn : rs.length = n := by simpa [hl] using h3
  subst hn
  exact ⟨A, c, rs, rfl, h1, h2, Ps, hl, h6, hr⟩
end
end Go.Proofs.Ytejoofeoffehmaa
